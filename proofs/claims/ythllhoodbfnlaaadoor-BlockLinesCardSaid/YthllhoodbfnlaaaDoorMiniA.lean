/- Mini: code, compiled to a short form, run over a heap of numbered rows of values: what it asks for, as a proposition. No condition. -/
import Derived.WalkKit
import Derived.Below
import Derived.Deep.Quiet
import Derived.StillTail
namespace Go.Mini
open Go
set_option linter.unusedVariables false

/-! ### The heap -/
structure Blk where
  ty : TypeId
  sz : Nat
  cells : List Value
  own : Bool

structure Heap where
  n : Nat
  l : List (Option Blk)

/-- Row i, if it is in the list. -/
def mrow : List (Option Blk) → Nat → Option Blk
  | [], _ => none
  | x :: _, 0 => x
  | _ :: l, i + 1 => mrow l i
def mput : List (Option Blk) → Nat → Option Blk → List (Option Blk)
  | [], 0, b => [b]
  | [], i + 1, b => none :: mput [] i b
  | _ :: l, 0, b => b :: l
  | x :: l, i + 1, b => x :: mput l i b
theorem mrow_nil : ∀ i, mrow [] i = none := fun i => by cases i <;> rfl
theorem mrow_put : ∀ (l : List (Option Blk)) (i j : Nat) (b : Option Blk), mrow (mput l i b) j = if j = i then b else mrow l j
  | [], 0, 0, b => rfl
  | [], 0, j + 1, b => by rw [if_neg (by omega), mrow_nil]; exact mrow_nil j
  | [], i + 1, 0, b => by rw [if_neg (by omega)]; rfl
  | [], i + 1, j + 1, b => by
    refine (mrow_put [] i j b).trans ?_
    rw [mrow_nil, mrow_nil]; simp only [Nat.add_right_cancel_iff]
  | x :: l, 0, 0, b => rfl
  | x :: l, 0, j + 1, b => by rw [mput, mrow, if_neg (by omega), mrow]
  | x :: l, i + 1, 0, b => by rw [mput, mrow, if_neg (by omega), mrow]
  | x :: l, i + 1, j + 1, b => by rw [mput, mrow, mrow_put l i j b, mrow]; simp only [Nat.add_right_cancel_iff]
def Heap.g (h : Heap) (i : Nat) : Option Blk := mrow h.l i

def Heap.upd (h : Heap) (i : Nat) (b : Option Blk) : Heap := ⟨h.n, mput h.l i b⟩
def Heap.add (h : Heap) (b : Blk) : Heap := ⟨h.n + 1, mput h.l h.n (some b)⟩
theorem Heap.upd_g {h : Heap} {i j : Nat} {b : Option Blk} : (h.upd i b).g j = if j = i then b else h.g j := mrow_put ..
theorem Heap.add_g {h : Heap} {j : Nat} {b : Blk} : (h.add b).g j = if j = h.n then some b else h.g j := mrow_put ..

def flatV : Value → Bool
  | .bool _ | .int _ _ | .float _ _ | .complex _ _ _ | .string _ | .pointer none | .slice none 0 0 | .map none | .nilFunc | .nilIface => true
  | .func (.func _) a b => a.isEmpty && b.isEmpty
  | _ => false
def clean : Value → Bool
  | .agg cs => cs.toList.all flatV
  | v => flatV v

/-! ### The short form -/
inductive MO where
  | t (n : Nat)
  | c (v : Value)

/-- What a cell holds. -/
inductive Sh where
  | int (k : IntKind)
  | str
  | bool
  | slc
  | ptr

inductive MOp where
  | mv (x : MO)
  | pick (c a b : MO)
  | bin (op : BinOp) (x y : MO)
  | bb (op : BinOp) (x y : MO)
  | eqa (neg : Bool) (sh : List Sh) (x y : MO)
  | un (op : UnOp) (x : MO)
  | cint (k : IntKind) (x : MO)
  | cid (x : MO)
  | bts (x : MO)
  | sub (x : MO) (lo hi : Option MO)
  | slc (sz : Nat) (x : MO) (lo hi : Option MO)
  | fa (off : Nat) (x : MO)
  | fld (off : Nat) (n : Option Nat) (x : MO)
  | ia (sz : Nat) (x i : MO)
  | iaA (len sz : Nat) (x i : MO)
  | ixs (x i : MO)
  | ixA (len sz : Nat) (n : Option Nat) (x i : MO)
  | ixAT (sh : List Sh) (len sz : Nat) (n : Option Nat) (x i : MO)
  | ld (n : Option Nat) (x : MO)
  | ldT (sh : List Sh) (n : Option Nat) (x : MO)
  | st (n : Nat) (x y : MO)
  | nil (x : MO)
  | new (T sz : Nat) (z : List Value)
  | box (T sz : Nat) (x : MO)
  | bld (z : List Value) (parts : List (Nat × Nat × MO))
  | bsl (T sz len : Nat) (z : List Value) (parts : List (Nat × Nat × MO))
  | app (T sz bytes : Nat) (z : List Value) (x y : MO)
  | apps (T : Nat) (x y : MO)
  | lens (x : MO)
  | lenl (x : MO)
  | mx (x y : MO)
  | mn (x y : MO)
  | ext (i : Nat) (x : MO)
  | call (f : Nat) (args : List MO)

structure MOper where
  dst : Option Nat
  op : MOp
  guard : Option (Nat × Bool)

inductive MCode where
  | skip
  | reg (ops : List MOper)
  | dreg (hd tl : List MOper)
  | seq (a b : MCode)
  | cond (c : MO) (a b : MCode)
  | block (id : Nat) (c : MCode)
  | loop (id : Nat) (c : MCode)
  | exit (id : Nat)
  | scope (id : Nat) (c : MCode)
  | label (l : Nat)
  | goto (l : Nat)
  | ret

/-- A function's slots: how many; those that hold addresses within rows whose cells are a list of no fixed length. -/
structure NT where
  n : Nat
  T : List Nat

/-! ### Compiling -/
def memN (t : Nat) : List Nat → Bool
  | [] => false
  | u :: us => bif Nat.beq u t then true else memN t us
def isT (T : List Nat) : MO → Bool
  | .t s => memN s T
  | _ => false
def shOf (P : Program) : Nat → TypeId → Option (List Sh)
  | 0, _ => none
  | k + 1, t => match P.underlying t with
    | some (.int k) => some [.int k]
    | some .string => some [.str]
    | some .bool => some [.bool]
    | some (.slice _) => some [.slc]
    | some (.pointer _) => some [.ptr]
    | some (.struct fs) => fs.toList.foldr (fun f acc => match shOf P k f.type, acc with
      | some a, some b => some (a ++ b)
      | _, _ => none) (some [])
    | some (.array len e) => (shOf P k e).map fun s => (List.replicate len s).flatten
    | _ => none
/-- The fields of a flat struct, one cell each; none if one isn't. -/
def flds (P : Program) : Nat → List Field → Option (List Sh)
  | _, [] => some []
  | i, f :: fs => bif !(f.name == "_") && Nat.beq f.offset i then match P.underlying f.type, flds P (i + 1) fs with
    | some (.int k), some l => some (.int k :: l)
    | some .string, some l => some (.str :: l)
    | some .bool, some l => some (.bool :: l)
    | _, _ => none
    else none
def eqSh (P : Program) (t : TypeId) (fs : List Field) : Option (List Sh) := bif !P.stoodInHeld t && !P.eqGuardType P.depth t then flds P 0 fs else none
def shFits (n : Option Nat) (sh : List Sh) : Bool := match n with
  | none => Nat.beq sh.length 1
  | some n => Nat.beq sh.length n && Nat.blt 0 n
def cmo : Operand → Option MO
  | .tmp t => some (.t t)
  | .const v => if clean v then some (.c v) else none
  | .func f => some (.c (.func (.func f) #[] #[]))
  | .global _ => none

def cmos : List Operand → Option (List MO)
  | [] => some []
  | x :: xs => match cmo x, cmos xs with
    | some y, some ys => some (y :: ys)
    | _, _ => none

def copt : Option Operand → Option (Option MO)
  | none => some none
  | some x => (cmo x).map some

/-- An aggregate's number of cells; none: one cell. -/
def aggN (P : Program) (t : TypeId) : Option (Option Nat) :=
  match P.underlying t, P.info? t with
  | some (.struct _), some i | some (.array _ _), some i => some (some i.size)
  | some (.tuple _), _ => none
  | some _, some _ => some none
  | _, _ => none


def cparts (P : Program) (place : Nat → Option (Nat × Nat)) : List (Nat × Operand) → Option (List (Nat × Nat × MO))
  | [] => some []
  | (i, x) :: rest => match place i, cmo x, cparts P place rest with
    | some (o, s), some y, some l => some ((o, s, y) :: l)
    | _, _, _ => none

def zeroOf (P : Program) (t : TypeId) : Option (List Value) :=
  match P.info? t with
  | some i => match i.zero with
    | some z => if z.cells.toList.all flatV then some z.cells.toList else none
    | none => none
  | none => none

def cop (P : Program) (T : List Nat) : Op → Option MOp
  | .move x | .assign x => (cmo x).map .mv
  | .pick c a b => match cmo c, cmo a, cmo b with
    | some c, some a, some b => some (.pick c a b)
    | _, _, _ => none
  | .alloc T => match zeroOf P T with
    | some (z :: zs) => some (.new T (P.cellsOf T) (z :: zs))
    | _ => none
  | .box T x => (cmo x).map (.box T (P.cellsOf T))
  | .build t parts => match P.underlying t, zeroOf P t with
    | some (.struct fs), some z => match fs.toList.mapM (fun f => (P.info? f.type).map fun i => (f.offset, i.size)) with
      | some pl => (cparts P (fun k => pl.toArray[k]?) parts.toList).map (.bld z)
      | none => none
    | some (.array _ e), some z => match P.info? e with
      | some i => (cparts P (fun k => some (k * i.size, i.size)) parts.toList).map (.bld z)
      | none => none
    | _, _ => none
  | .buildSlice t len parts => match P.underlying t with
    | some (.slice e) => match zeroOf P e, P.info? e with
      | some z, some i => if len * i.size ≤ 16777216 && 0 < len * i.size && z.length == i.size then (cparts P (fun k => some (k * i.size, i.size)) parts.toList).map (.bsl e i.size len z) else none
      | _, _ => none
    | _ => none
  | .load t x => match aggN P t, cmo x with
    | some n, some x => match isT T x with
      | true => match shOf P 8 t with
        | some sh => if shFits n sh then some (.ldT sh n x) else none
        | none => some (.ld n x)
      | false => some (.ld n x)
    | _, _ => none
  | .store t x y => match P.info? t, cmo x, cmo y with
    | some i, some x, some y => some (.st i.size x y)
    | _, _, _ => none
  | .nilCheck x => (cmo x).map .nil
  | .binOp op t x y _ => match P.underlying t, cmo x, cmo y with
    | some (.int _), some x, some y | some .string, some x, some y => some (.bin op x y)
    | some .bool, some x, some y => some (.bb op x y)
    | some (.struct fs), some x, some y => match op, eqSh P t fs.toList with
      | .eql, some sh => some (.eqa false sh x y)
      | .neq, some sh => some (.eqa true sh x y)
      | _, _ => none
    | _, _, _ => none
  | .unOp op _ x => (cmo x).map (.un op)
  | .convert src dst x => match P.underlying src, P.underlying dst, cmo x with
    | some (.int _), some (.int k), some x => some (.cint k x)
    | some .string, some .string, some x => some (.cid x)
    | some (.slice e), some .string, some x => match P.underlying e with
      | some (.int .u8) => some (.bts x)
      | _ => none
    | _, _, _ => none
  | .slice t x lo hi none => match P.underlying t, cmo x, copt lo, copt hi with
    | some .string, some x, some lo, some hi => some (.sub x lo hi)
    | some (.slice e), some x, some lo, some hi => match P.info? e with
      | some i => some (.slc i.size x lo hi)
      | none => none
    | _, _, _, _ => none
  | .fieldAddr s x f => match P.underlying s, cmo x with
    | some (.struct fs), some x => match fs[f]? with
      | some fd => match P.info? fd.type with
        | some i => if i.size = 0 then none else some (.fa fd.offset x)
        | none => none
      | none => none
    | _, _ => none
  | .field t x f => match P.underlying t, cmo x with
    | some (.struct fs), some x => match fs[f]? with
      | some fd => match aggN P fd.type with
        | some n => some (.fld fd.offset n x)
        | none => none
      | none => none
    | _, _ => none
  | .indexAddr t x i => match P.underlying t, cmo x, cmo i with
    | some (.slice e), some x, some i => match P.info? e with
      | some j => some (.ia j.size x i)
      | none => none
    | some (.array len e), some x, some i => match P.info? e with
      | some j => some (.iaA len j.size x i)
      | none => none
    | _, _, _ => none
  | .index t x i => match P.underlying t, cmo x, cmo i with
    | some .string, some x, some i => some (.ixs x i)
    | some (.array len e), some x, some i => match P.info? e, aggN P e with
      | some j, some n => match i with
        | .t _ => match shOf P 8 e with
          | some sh => if shFits n sh then some (.ixAT sh len j.size n x i) else none
          | none => some (.ixA len j.size n x i)
        | .c _ => some (.ixA len j.size n x i)
      | _, _ => none
    | _, _, _ => none
  | .extract x i => (cmo x).map (.ext i)
  | .call ⟨.value (.func f), args, _⟩ => (cmos args.toList).map (.call f)
  | .call ⟨.builtin b, args, tys⟩ => match b, args.toList, tys.toList with
    | .len, [x], [t] => match P.underlying t, cmo x with
      | some .string, some x => some (.lens x)
      | some (.slice _), some x => some (.lenl x)
      | _, _ => none
    | .append, [x, y], [t, u] => match P.underlying t, cmo x, cmo y with
      | some (.slice e), some x, some y => match zeroOf P e, P.info? e with
        | some z, some i => if t == u then (if 0 < i.size && z.length == i.size then some (.app e i.size i.bytes z x y) else none)
          else match P.underlying u, i.zero with
            | some .string, some (.int .u8 0) => if i.size == 1 && i.bytes == 1 then some (.apps e x y) else none
            | _, _ => none
        | _, _ => none
      | _, _, _ => none
    | .max, [x, y], _ => match cmo x, cmo y with
      | some x, some y => some (.mx x y)
      | _, _ => none
    | .min, [x, y], _ => match cmo x, cmo y with
      | some x, some y => some (.mn x y)
      | _, _ => none
    | _, _, _ => none
  | _ => none

def coper (P : Program) (nt : NT) (ops : Array Oper) (o : Oper) : Option MOper :=
  match cop P nt.T o.op with
  | none => none
  | some m =>
    if o.dst.all (· < nt.n) then
      match o.guard with
      | none => some ⟨o.dst, m, none⟩
      | some (j, want) => match (ops[j]?).bind (·.dst) with
        | some t => some ⟨o.dst, m, some (t, want)⟩
        | none => none
    else none

def copers (P : Program) (nt : NT) (ops : Array Oper) : List Oper → Option (List MOper)
  | [] => some []
  | o :: rest => match coper P nt ops o, copers P nt ops rest with
    | some m, some l => some (m :: l)
    | _, _ => none

/-- Operations that make and write nothing (a call: as its callee). -/
def quietR : Op → Bool
  | .alloc _ | .box _ _ | .buildSlice _ _ _ | .store _ _ _ => false
  | .call ⟨.builtin .append, _, _⟩ => false
  | _ => true

/-- How many operations of a drawn region are taken as quiet ones. -/
def quietN (ops : Array Oper) : Option Nat :=
  if Region.lexB .any ops && ops.toList.all (fun o => quietR o.op) then some ops.size
  else (List.range ops.size).reverse.find? fun n => Region.lexTailB .any ops n && (ops.toList.take n).all (fun o => quietR o.op)

/-- Operation n waits for operation l, too. -/
def addEdge (ops : Array Oper) (n l : Nat) : Array Oper := match ops[n]? with
  | some o => ops.setIfInBounds n { o with after := o.after.push ⟨l, .data⟩ }
  | none => ops
def pureR (o : Oper) : Bool := match o.op, o.guard with
  | .pick _ _ _, none => true
  | _, _ => false
/-- Operation l is a choice between temporaries, may stand on either side of operation n, and may be taken ahead of it. -/
def lateB (ops : Array Oper) (n l : Nat) : Bool :=
  match ops[n]?, ops[l]? with
  | some on, some ol => !(n == l) && pureR ol && Region.noSelect ops && ol.apart ops on &&
    (ol.after.all fun e => !Region.binds .any e || on.after.any fun e' => Region.binds .any e' && (e'.on == e.on || match ops[e'.on]? with
      | some o' => o'.after.any fun e'' => Region.binds .any e'' && e''.on == e.on
      | none => false)) &&
    ((List.range ops.size).all fun j => j == l || match ops[j]? with
      | some oj => (ol.after.any fun e => Region.binds .any e && e.on == j) || (oj.after.any fun e => Region.binds .any e && e.on == l) || ol.apart ops oj
      | none => true)
  | _, _ => false
def lateN (ops : Array Oper) : Option (Nat × Nat) :=
  ((List.range ops.size).flatMap fun n => (List.range n).map fun l => (n, l)).find? fun p => lateB ops p.1 p.2 && Region.lexTailB .any (addEdge ops p.1 p.2) p.1 && ((addEdge ops p.1 p.2).toList.take p.1).all (fun o => quietR o.op)

def pureY (o : Oper) : Bool := match o.op, o.guard with
  | .move _, none | .assign _, none => true
  | .pick _ _ _, none => true
  | .slice _ _ _ _ none, none => true
  | _, _ => false
/-- Operations that come up one by one, in this order. -/
def seqL (ops : Array Oper) : List Nat → Array Bool → Bool
  | [], listed => (Region.ready .any ops listed).isEmpty
  | k :: l, listed => decide (Region.ready .any ops listed = [k]) && seqL ops l (listed.setIfInBounds k true)
/-- Pure operations that may be taken first; behind them the rest one by one. -/
def permB (ops : Array Oper) (rs : List Nat) : List Nat → Array Bool → Bool
  | [], listed => seqL ops rs listed
  | p :: ps, listed => match ops[p]? with
    | some o => pureY o && (Region.ready .any ops listed).contains p && Region.free .any ops listed p && permB ops rs ps (listed.setIfInBounds p true)
    | none => false
def pures (ops : Array Oper) : List Nat → List Nat → List Nat
  | [], acc => acc.reverse
  | i :: l, acc => match ops[i]? with
    | some o => pures ops l (bif pureY o && o.after.all (fun e => !Region.binds .any e || acc.contains e.on) then i :: acc else acc)
    | none => acc.reverse
def permN (ops : Array Oper) : Option (List Nat) :=
  let ps := pures ops (List.range ops.size) []
  let rs := (List.range ops.size).filter fun i => !ps.contains i
  if Region.noSelect ops && ps.length + rs.length == ops.size && permB ops rs ps (Array.replicate ops.size false) then some (ps ++ rs) else none

def compile (P : Program) (nt : NT) : Code → Nat → Option MCode
  | .skip, _ => some .skip
  | .region _ ops draw, _ =>
    if draw then
      if P.follows .mixedOrders then (bif memN 1000000 nt.T then match permN ops with
        | some l => match copers P nt ops ops.toList, copers P nt ops (l.filterMap (ops[·]?)) with
          | some _, some ml => some (.reg ml)
          | _, _ => none
        | none => none
        else match quietN ops with
        | some n => match copers P nt ops ops.toList with
          | some l => some (.dreg (l.take n) (l.drop n))
          | none => none
        | none => match lateN ops with
          | some p => match copers P nt (addEdge ops p.1 p.2) (addEdge ops p.1 p.2).toList with
            | some l => some (.dreg (l.take p.1) (l.drop p.1))
            | none => none
          | none => none)
      else none
    else (copers P nt ops ops.toList).map .reg
  | .seq a b, k => match compile P nt a k, compile P nt b k with
    | some a, some b => some (.seq a b)
    | _, _ => none
  | .cond c a b, k => match cmo c, compile P nt a k, compile P nt b k with
    | some c, some a, some b => some (.cond c a b)
    | _, _, _ => none
  | .block id c, _ => (compile P nt c id).map (.block id)
  | .loop c, k => (compile P nt c k).map (.loop k)
  | .exit id, _ => some (.exit id)
  | .scope c, k => (compile P nt c k).map (.scope (k + 1000))
  | .label l, _ => some (.label l)
  | .goto l, _ => some (.goto l)
  | .ret, _ => some .ret
  | _, _ => none

/-! ### What it asks for -/
abbrev Env := List (Nat × Value)
def Env.get : Env → Nat → Option Value
  | [], _ => none
  | (u, v) :: e, t => bif Nat.beq u t then some v else Env.get e t
theorem Env.get_self {t : Nat} {v : Value} {e : Env} : Env.get ((t, v) :: e) t = some v := by simp [Env.get]
theorem Env.get_ne {u t : Nat} {v : Value} {e : Env} (h : u ≠ t) : Env.get ((u, v) :: e) t = e.get t := by
  have : Nat.beq u t = false := by cases hb : Nat.beq u t; rfl; exact absurd (Nat.eq_of_beq_eq_true hb) h
  rw [Env.get, this]; rfl
theorem Env.get_if {u t : Nat} {v : Value} {e : Env} : Env.get ((u, v) :: e) t = if u = t then some v else e.get t := by
  split
  · rename_i h; subst h; exact Env.get_self
  · rename_i h; exact Env.get_ne h
def Env.put (e : Env) : Option Nat → Value → Env
  | some d, v => (d, v) :: e
  | none, _ => e

def MO.ev (e : Env) : MO → Option Value
  | .t n => e.get n
  | .c v => some v
def evs (e : Env) : List MO → Option (List Value)
  | [] => some []
  | x :: xs => match x.ev e, evs e xs with
    | some v, some vs => some (v :: vs)
    | _, _ => none

def vcells : Value → List Value
  | .agg cs => cs.toList
  | .tuple _ => []
  | v => [v]

def rng : IntKind → Int → Prop
  | .i8, n => -128 ≤ n ∧ n ≤ 127
  | .i16, n => -32768 ≤ n ∧ n ≤ 32767
  | .i32, n => -2147483648 ≤ n ∧ n ≤ 2147483647
  | .i64, n => -9223372036854775808 ≤ n ∧ n ≤ 9223372036854775807
  | .u8, n => 0 ≤ n ∧ n ≤ 255
  | .u16, n => 0 ≤ n ∧ n ≤ 65535
  | .u32, n => 0 ≤ n ∧ n ≤ 4294967295
  | .u64, n => 0 ≤ n ∧ n ≤ 18446744073709551615

def byteAt (s : ByteArray) (i : Nat) : UInt8 := s.data.toList.getD i 0

abbrev VK := Value → Heap → Prop

def kindEq : IntKind → IntKind → Bool
  | .i8, .i8 | .i16, .i16 | .i32, .i32 | .i64, .i64 | .u8, .u8 | .u16, .u16 | .u32, .u32 | .u64, .u64 => true
  | _, _ => false
theorem kindEq_eq {k k' : IntKind} (h : kindEq k k' = true) : k = k' := by cases k <;> cases k' <;> first | rfl | cases h

def ibin (op : BinOp) (k : IntKind) (a b : Int) (h : Heap) (K : VK) : Prop :=
  match op with
  | .add => rng k (a + b) ∧ K (.int k (a + b)) h
  | .sub => rng k (a - b) ∧ K (.int k (a - b)) h
  | .mul => rng k (a * b) ∧ K (.int k (a * b)) h
  | .quo => b ≠ 0 ∧ rng k (a.tdiv b) ∧ K (.int k (a.tdiv b)) h
  | .rem => b ≠ 0 ∧ K (.int k (a.tmod b)) h
  | .eql => K (.bool (decide (a = b))) h
  | .neq => K (.bool (!decide (a = b))) h
  | .lss => K (.bool (decide (a < b))) h
  | .leq => K (.bool (decide (a ≤ b))) h
  | .gtr => K (.bool (decide (b < a))) h
  | .geq => K (.bool (decide (b ≤ a))) h
  | .and => K (.int k (k.wrap (BitVec.ofInt k.bits a &&& BitVec.ofInt k.bits b).toNat)) h
  | .or => K (.int k (k.wrap (BitVec.ofInt k.bits a ||| BitVec.ofInt k.bits b).toNat)) h
  | .xor => K (.int k (k.wrap (BitVec.ofInt k.bits a ^^^ BitVec.ofInt k.bits b).toNat)) h
  | .andNot => K (.int k (k.wrap (BitVec.ofInt k.bits a &&& ~~~(BitVec.ofInt k.bits b)).toNat)) h
  | .shl => False
  | .shr => False

def shbin (op : BinOp) (k : IntKind) (a b : Int) (h : Heap) (K : VK) : Prop :=
  match op with
  | .shl => 0 ≤ b ∧ K (.int k (k.wrap (a * 2 ^ (min b.toNat k.bits)))) h
  | .shr => 0 ≤ b ∧ K (.int k (a.fdiv (2 ^ (min b.toNat k.bits)))) h
  | _ => False
def isSh : BinOp → Bool
  | .shl | .shr => true
  | _ => false

def sbin (op : BinOp) (a b : ByteArray) (h : Heap) (K : VK) : Prop :=
  match op with
  | .add => a.size + b.size ≤ 9223372036854775807 ∧ K (.string (a ++ b)) h
  | .eql => K (.bool (decide (a = b))) h
  | .neq => K (.bool (!decide (a = b))) h
  | _ => False

def bbin (op : BinOp) (a b : Bool) (h : Heap) (K : VK) : Prop :=
  match op with
  | .eql => K (.bool (a == b)) h
  | .neq => K (.bool (!(a == b))) h
  | _ => False

def vbin (op : BinOp) (x y : Option Value) (h : Heap) (K : VK) : Prop :=
  match x, y with
  | some (.int k a), some (.int k' b) => bif isSh op then shbin op k a b h K else bif kindEq k k' then ibin op k a b h K else False
  | some (.string a), some (.string b) => sbin op a b h K
  | _, _ => False

def vbb (op : BinOp) (x y : Option Value) (h : Heap) (K : VK) : Prop :=
  match x, y with
  | some (.bool a), some (.bool b) => bbin op a b h K
  | _, _ => False

/-- Flat structs, field by field. -/
def vcell : Sh → Value → Value → Option Bool
  | .int k, .int k1 a, .int k2 b => bif kindEq k1 k && kindEq k2 k then some (decide (a = b)) else none
  | .str, .string a, .string b => some (decide (a = b))
  | .bool, .bool a, .bool b => some (a == b)
  | _, _, _ => none
def veqs : List Sh → List Value → List Value → Option Bool
  | [s], [x], [y] => vcell s x y
  | s :: l, x :: xs, y :: ys => match vcell s x y, veqs l xs ys with
    | some a, some b => some (a && b)
    | _, _ => none
  | _, _, _ => none
def veqa (neg : Bool) (sh : List Sh) (x y : Option Value) (h : Heap) (K : VK) : Prop :=
  match x, y with
  | some (.agg xs), some (.agg ys) => match veqs sh xs.toList ys.toList with
    | some r => K (.bool (bif neg then !r else r)) h
    | none => False
  | _, _ => False

/-- Two ways. -/
def br (b : Bool) (A B : Prop) : Prop :=
  match b with
  | true => A
  | false => B

/-- What must be, a test that mostly comes out by computing. -/
def ck (b : Bool) (A : Prop) : Prop := br b A False
theorem ck_iff {b : Bool} {A : Prop} : ck b A ↔ b = true ∧ A := by cases b <;> simp [ck, br]
theorem ck_le {a b : Nat} {A : Prop} : ck (Nat.ble a b) A ↔ a ≤ b ∧ A := by rw [ck_iff, Nat.ble_eq]
theorem br_le {a b : Nat} {A : Prop} (h : a ≤ b) (hA : A) : br (Nat.ble a b) A False := ck_le.2 ⟨h, hA⟩
theorem br_ok {b : Bool} {A : Prop} (h : b = true) (hA : A) : br b A False := ck_iff.2 ⟨h, hA⟩

def kv (x : Option Value) (h : Heap) (K : VK) : Prop :=
  match x with
  | some v => K v h
  | none => False

def vpick (c a b : Option Value) (h : Heap) (K : VK) : Prop :=
  match c with
  | some (.bool t) => br t (kv a h K) (kv b h K)
  | _ => False

def vun (op : UnOp) (x : Option Value) (h : Heap) (K : VK) : Prop :=
  match op, x with
  | .not, some (.bool b) => K (.bool (!b)) h
  | .neg, some (.int k n) => rng k (0 - n) ∧ K (.int k (0 - n)) h
  | _, _ => False

def vsub (x : Option Value) (lo hi : Option (Option Value)) (h : Heap) (K : VK) : Prop :=
  match x, lo, hi with
  | some (.string s), none, none => K (.string s) h
  | some (.string s), some (some (.int _ l)), none => (0 ≤ l ∧ l ≤ s.size) ∧ K (.string (s.extract l.toNat s.size)) h
  | some (.string s), none, some (some (.int _ r)) => (0 ≤ r ∧ r ≤ s.size) ∧ K (.string (s.extract 0 r.toNat)) h
  | some (.string s), some (some (.int _ l)), some (some (.int _ r)) => (0 ≤ l ∧ l ≤ r ∧ r ≤ s.size) ∧ K (.string (s.extract l.toNat r.toNat)) h
  | _, _, _ => False

def vslc (sz : Nat) (x : Option Value) (lo hi : Option (Option Value)) (h : Heap) (K : VK) : Prop :=
  match x with
  | some (.slice (some ⟨i, o, none⟩) n _) => match h.g i with
    | none => False
    | some b => ck (Nat.beq b.sz sz) <| match lo, hi with
      | none, none => K (.slice (some ⟨i, o, none⟩) n n) h
      | some (some (.int _ l)), none => (0 ≤ l ∧ l ≤ n) ∧ K (.slice (some ⟨i, o + l.toNat * sz, none⟩) (n - l.toNat) (n - l.toNat)) h
      | none, some (some (.int _ r)) => (0 ≤ r ∧ r ≤ n) ∧ K (.slice (some ⟨i, o, none⟩) r.toNat r.toNat) h
      | some (some (.int _ l)), some (some (.int _ r)) => (0 ≤ l ∧ l ≤ r ∧ r ≤ n) ∧ K (.slice (some ⟨i, o + l.toNat * sz, none⟩) (r.toNat - l.toNat) (r.toNat - l.toNat)) h
      | _, _ => False
  | some (.slice none 0 0) => match lo, hi with
    | none, none => K (.slice none 0 0) h
    | some (some (.int _ l)), none => l = 0 ∧ K (.slice none 0 0) h
    | none, some (some (.int _ r)) => r = 0 ∧ K (.slice none 0 0) h
    | some (some (.int _ l)), some (some (.int _ r)) => (l = 0 ∧ r = 0) ∧ K (.slice none 0 0) h
    | _, _ => False
  | _ => False

def vpart (cs : List Value) (off : Nat) (n : Option Nat) (h : Heap) (K : VK) : Prop :=
  match n with
  | none => kv cs[off]? h K
  | some n => ck (Nat.ble (off + n) cs.length) (K (.agg ((cs.drop off).take n).toArray) h)

def vfld (off : Nat) (n : Option Nat) (x : Option Value) (h : Heap) (K : VK) : Prop :=
  match x with
  | some (.agg cs) => vpart cs.toList off n h K
  | _ => False

def via (sz : Nat) (x i : Option Value) (h : Heap) (K : VK) : Prop :=
  match x, i with
  | some (.slice (some ⟨b, o, none⟩) n _), some (.int _ j) => (0 ≤ j ∧ j < n) ∧ K (.pointer (some ⟨b, o + j.toNat * sz, none⟩)) h
  | _, _ => False

def viaA (len sz : Nat) (x i : Option Value) (h : Heap) (K : VK) : Prop :=
  match x, i with
  | some (.pointer (some ⟨b, o, none⟩)), some (.int _ j) => (0 ≤ j ∧ j < len) ∧ K (.pointer (some ⟨b, o + j.toNat * sz, none⟩)) h
  | _, _ => False

def vixs (x i : Option Value) (h : Heap) (K : VK) : Prop :=
  match x, i with
  | some (.string s), some (.int _ j) => (0 ≤ j ∧ j < s.size) ∧ K (.int .u8 (byteAt s j.toNat).toNat) h
  | _, _ => False

def vixA (len sz : Nat) (n : Option Nat) (x i : Option Value) (h : Heap) (K : VK) : Prop :=
  match x, i with
  | some (.agg cs), some (.int _ j) => (0 ≤ j ∧ j < len) ∧ vpart cs.toList (j.toNat * sz) n h K
  | _, _ => False

/-- Of any values of these shapes. -/
def tyv : List Sh → (List Value → Prop) → Prop
  | [], Q => Q []
  | .int k :: l, Q => ∃ z : Int, tyv l fun vs => Q (.int k z :: vs)
  | .str :: l, Q => ∃ s : ByteArray, tyv l fun vs => Q (.string s :: vs)
  | .bool :: l, Q => ∃ b : Bool, tyv l fun vs => Q (.bool b :: vs)
  | .slc :: l, Q => ∃ (r o n : Nat), tyv l fun vs => Q (.slice (some ⟨r, o, none⟩) n n :: vs)
  | .ptr :: l, Q => ∃ (r o : Nat), tyv l fun vs => Q (.pointer (some ⟨r, o, none⟩) :: vs)
def mkv (n : Option Nat) (vs : List Value) : Value := match n with
  | none => match vs with
    | v :: _ => v
    | [] => undef
  | some _ => .agg vs.toArray
def vpartT (sh : List Sh) (cs : List Value) (off : Nat) (n : Option Nat) (h : Heap) (K : VK) : Prop := tyv sh fun vs => (cs.drop off).take sh.length = vs ∧ K (mkv n vs) h
def vldT (sh : List Sh) (n : Option Nat) (x : Option Value) (h : Heap) (K : VK) : Prop :=
  match x with
  | some (.pointer (some ⟨i, o, none⟩)) => match h.g i with
    | some b => vpartT sh b.cells o n h K
    | none => False
  | _ => False
def vixAT (sh : List Sh) (len sz : Nat) (n : Option Nat) (x i : Option Value) (h : Heap) (K : VK) : Prop :=
  match x, i with
  | some (.agg cs), some (.int _ j) => (0 ≤ j ∧ j < len) ∧ vpartT sh cs.toList (j.toNat * sz) n h K
  | _, _ => False

def vld (n : Option Nat) (x : Option Value) (h : Heap) (K : VK) : Prop :=
  match x with
  | some (.pointer (some ⟨i, o, none⟩)) => match h.g i with
    | some b => vpart b.cells o n h K
    | none => False
  | _ => False

def vst (n : Nat) (x y : Option Value) (h : Heap) (K : VK) : Prop :=
  match x, y with
  | some (.pointer (some ⟨i, o, none⟩)), some v => match h.g i with
    | some b => ck (b.own && Nat.blt 0 n && Nat.beq (vcells v).length n) (ck (Nat.ble (o + n) b.cells.length) (K undef (h.upd i (some { b with cells := b.cells.take o ++ vcells v ++ b.cells.drop (o + n) }))))
    | none => False
  | _, _ => False

def vnil (x : Option Value) (h : Heap) (K : VK) : Prop :=
  match x with
  | some (.pointer (some a)) => K (.pointer (some a)) h
  | _ => False

def place (cs : List Value) (o : Nat) (vs : List Value) : List Value := cs.take o ++ vs ++ cs.drop (o + vs.length)

def vfill (e : Env) (cs : List Value) : List (Nat × Nat × MO) → (List Value → Prop) → Prop
  | [], K => K cs
  | (o, s, x) :: rest, K => match x.ev e with
    | some v => ck (Nat.blt 0 s && Nat.beq (vcells v).length s && Nat.ble (o + s) cs.length) (vfill e (place cs o (vcells v)) rest K)
    | none => False

def rep : Nat → List Value → List Value
  | 0, _ => []
  | n + 1, z => z ++ rep n z

def vapp (T sz bytes : Nat) (x y : Option Value) (h : Heap) (K : VK) : Prop :=
  match x, y with
  | some (.slice none 0 0), some (.slice (some ⟨j, p, none⟩) m _) => match h.g j with
    | some c => ck (Nat.ble bytes 140737488) (ck (Nat.ble (p + m * sz) c.cells.length) (m ≤ 1000000 ∧ K (.slice (some ⟨h.n, 0, none⟩) m m) (h.add ⟨T, sz, (c.cells.drop p).take (m * sz), true⟩)))
    | none => False
  | some (.slice (some ⟨i, o, none⟩) n _), some (.slice (some ⟨j, p, none⟩) m _) => match h.g i, h.g j with
    | some b, some c => ck (Nat.ble bytes 140737488 && Nat.beq o 0 && b.own && Nat.beq b.ty T && Nat.beq b.sz sz) (ck (Nat.ble (p + m * sz) c.cells.length) ((n + m ≤ 1000000 ∧ n * sz ≤ b.cells.length) ∧
      K (.slice (some ⟨h.n, 0, none⟩) (n + m) (n + m)) ((h.upd i none).add ⟨T, sz, b.cells.take (n * sz) ++ (c.cells.drop p).take (m * sz), true⟩)))
    | _, _ => False
  | some v, some (.slice none 0 0) => match v with
    | .slice none 0 0 => K (.slice none 0 0) h
    | .slice (some ⟨i, o, none⟩) n c => K (.slice (some ⟨i, o, none⟩) n c) h
    | _ => False
  | _, _ => False

def strV (s : ByteArray) : List Value := s.data.toList.map fun b => .int .u8 b.toNat

def vapps (T : Nat) (x y : Option Value) (h : Heap) (K : VK) : Prop :=
  match x, y with
  | some (.slice none 0 0), some (.string s) => br (decide (s.size = 0)) (K (.slice none 0 0) h) (s.size ≤ 100000000000000 ∧ K (.slice (some ⟨h.n, 0, none⟩) s.size s.size) (h.add ⟨T, 1, strV s, true⟩))
  | some (.slice (some ⟨i, o, none⟩) n _), some (.string s) => match h.g i with
    | some b => ck (Nat.beq o 0 && b.own && Nat.beq b.ty T && Nat.beq b.sz 1) ((n + s.size ≤ 100000000000000 ∧ n ≤ b.cells.length) ∧
      K (.slice (some ⟨h.n, 0, none⟩) (n + s.size) (n + s.size)) ((h.upd i none).add ⟨T, 1, b.cells.take n ++ strV s, true⟩))
    | none => False
  | _, _ => False

def vlens (x : Option Value) (h : Heap) (K : VK) : Prop :=
  match x with
  | some (.string s) => K (.int .i64 s.size) h
  | _ => False
def vlenl (x : Option Value) (h : Heap) (K : VK) : Prop :=
  match x with
  | some (.slice none 0 0) => K (.int .i64 0) h
  | some (.slice (some ⟨_, _, none⟩) n _) => K (.int .i64 n) h
  | _ => False

def vmx (x y : Option Value) (h : Heap) (K : VK) : Prop :=
  match x, y with
  | some (.int k a), some (.int _ b) => K (.int k (max a b)) h
  | _, _ => False
def vmn (x y : Option Value) (h : Heap) (K : VK) : Prop :=
  match x, y with
  | some (.int k a), some (.int _ b) => K (.int k (min a b)) h
  | _, _ => False

def vext (i : Nat) (x : Option Value) (h : Heap) (K : VK) : Prop :=
  match x with
  | some (.tuple vs) => kv vs.toList[i]? h K
  | _ => False

abbrev CT := Nat → List Value → Heap → VK → Prop

def vcall (C : CT) (f : Nat) (args : Option (List Value)) (h : Heap) (K : VK) : Prop :=
  match args with
  | some vs => C f vs h K
  | none => False

def oev (e : Env) : Option MO → Option (Option Value)
  | none => none
  | some x => some (x.ev e)

def eop (C : CT) (e : Env) (h : Heap) (K : VK) : MOp → Prop
  | .mv x => kv (x.ev e) h K
  | .pick c a b => vpick (c.ev e) (a.ev e) (b.ev e) h K
  | .bin op x y => vbin op (x.ev e) (y.ev e) h K
  | .bb op x y => vbb op (x.ev e) (y.ev e) h K
  | .eqa neg sh x y => veqa neg sh (x.ev e) (y.ev e) h K
  | .un op x => vun op (x.ev e) h K
  | .cint k x => match x.ev e with | some (.int _ n) => rng k n ∧ K (.int k n) h | _ => False
  | .cid x => match x.ev e with | some (.string s) => K (.string s) h | _ => False
  | .bts x => match x.ev e with
    | some (.slice none 0 0) => K (.string ⟨#[]⟩) h
    | some (.slice (some ⟨i, o, none⟩) n _) => match h.g i with
      | some b => ∃ l : List UInt8, ((b.cells.drop o).take n = l.map (fun b => .int .u8 b.toNat) ∧ l.length = n) ∧ K (.string ⟨l.toArray⟩) h
      | none => False
    | _ => False
  | .sub x lo hi => vsub (x.ev e) (oev e lo) (oev e hi) h K
  | .slc sz x lo hi => vslc sz (x.ev e) (oev e lo) (oev e hi) h K
  | .fa off x => match x.ev e with | some (.pointer (some ⟨i, o, none⟩)) => K (.pointer (some ⟨i, o + off, none⟩)) h | _ => False
  | .fld off n x => vfld off n (x.ev e) h K
  | .ia sz x i => via sz (x.ev e) (i.ev e) h K
  | .iaA len sz x i => viaA len sz (x.ev e) (i.ev e) h K
  | .ixs x i => vixs (x.ev e) (i.ev e) h K
  | .ixA len sz n x i => vixA len sz n (x.ev e) (i.ev e) h K
  | .ixAT sh len sz n x i => vixAT sh len sz n (x.ev e) (i.ev e) h K
  | .ld n x => vld n (x.ev e) h K
  | .ldT sh n x => vldT sh n (x.ev e) h K
  | .st n x y => vst n (x.ev e) (y.ev e) h K
  | .nil x => vnil (x.ev e) h K
  | .new T sz z => K (.pointer (some ⟨h.n, 0, none⟩)) (h.add ⟨T, sz, z, true⟩)
  | .box T sz x => match x.ev e with | some v => ck (Nat.blt 0 (vcells v).length) (K (.pointer (some ⟨h.n, 0, none⟩)) (h.add ⟨T, sz, vcells v, true⟩)) | none => False
  | .bld z parts => vfill e z parts fun cs => K (.agg cs.toArray) h
  | .bsl T sz len z parts => vfill e (rep len z) parts fun cs => K (.slice (some ⟨h.n, 0, none⟩) len len) (h.add ⟨T, sz, cs, true⟩)
  | .app T sz bytes _ x y => vapp T sz bytes (x.ev e) (y.ev e) h K
  | .apps T x y => vapps T (x.ev e) (y.ev e) h K
  | .lens x => vlens (x.ev e) h K
  | .lenl x => vlenl (x.ev e) h K
  | .mx x y => vmx (x.ev e) (y.ev e) h K
  | .mn x y => vmn (x.ev e) (y.ev e) h K
  | .ext i x => vext i (x.ev e) h K
  | .call f args => vcall C f (evs e args) h K

abbrev XK := Exit → Env → Heap → Prop

def gd (e : Env) (g : Option (Nat × Bool)) (A B : Env → Prop) : Prop :=
  match g with
  | none => A e
  | some (t, want) => match e.get t with
    | some (.bool b) => br b (bif want then A ((t, .bool true) :: e) else B ((t, .bool true) :: e)) (bif want then B ((t, .bool false) :: e) else A ((t, .bool false) :: e))
    | some (.tuple _) => B e
    | _ => False

def aops (C : CT) (R : XK) : List MOper → Env → Heap → Prop
  | [], e, h => R .normal e h
  | o :: rest, e, h => gd e o.guard (fun e => eop C e h (fun v h' => aops C R rest (e.put o.dst v) h') o.op) (fun e => aops C R rest (e.put o.dst undef) h)

end Go.Mini
