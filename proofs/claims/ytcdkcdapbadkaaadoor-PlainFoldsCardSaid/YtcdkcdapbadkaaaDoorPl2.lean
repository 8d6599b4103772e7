/- Plain texts: a part, the code's and the reference's. Conditions: sizes. -/
import Derived.Test.YtcdkcdapbadkaaaDoorPl1
namespace Go.Mini
open Go Go.RowKit Go.Proofs
set_option maxRecDepth 100000
set_option linter.unusedVariables false
set_option linter.unusedSimpArgs false

/-- The reference's scan. -/
def stopR (v : Int) (s : ByteArray) (i : Int) (flow : Bool) (k : Int) : Bool := decide (s.size ≤ k) || decide (0 < brkI v s k) || (decide (i < k) && remI s k) || (decide (byteAt s k.toNat = 58) && stopI v s (k + 1) flow) || (flow && signB (byteAt s k.toNat))
def scanR (v : Int) (s : ByteArray) (i : Int) (flow : Bool) : Nat → Int → Int
  | 0, k => k
  | n + 1, k => if stopR v s i flow k = true then k else scanR v s i flow n (k + 1)
def backR (s : ByteArray) (i : Int) : Nat → Int
  | 0 => i
  | n + 1 => if blankI s (i + n) = true then backR s i n else i + n + 1
def signI (c : Int) : Bool := decide (c = 44) || decide (c = 91) || decide (c = 93) || decide (c = 123) || decide (c = 125)
theorem signI_B (c : UInt8) : signI (c.toNat : Int) = signB c := by
  unfold signI signB
  rw [Bool.eq_iff_iff]
  simp only [Bool.or_eq_true, decide_eq_true_eq, List.contains_iff_mem, List.mem_cons, List.not_mem_nil, or_false, or_assoc]
  have k : ∀ x : UInt8, c = x ↔ (c.toNat : Int) = x.toNat := fun x => ⟨fun h => by rw [h], fun h => UInt8.toNat_inj.1 (by omega)⟩
  rw [k 44, k 91, k 93, k 123, k 125]
  rfl
theorem opensI_lt {v : Int} {s : ByteArray} {i : Int} {flow : Bool} (h : opensI v s i flow = true) : 0 ≤ i ∧ i < s.size := by
  unfold opensI at h
  simp only [Bool.and_eq_true, decide_eq_true_eq, Bool.not_eq_true'] at h
  obtain ⟨⟨⟨h1, h2⟩, _⟩, _⟩ := h
  unfold stopI at h2
  simp only [Bool.or_eq_false_iff, decide_eq_false_iff_not] at h2
  omega
theorem opensI_35 {v : Int} {s : ByteArray} {i : Int} {flow : Bool} (h : opensI v s i flow = true) : byteAt s i.toNat ≠ 35 := by
  unfold opensI at h
  simp only [Bool.and_eq_true, decide_eq_true_eq, Bool.not_eq_true'] at h
  obtain ⟨⟨⟨h1, h2⟩, h3⟩, _⟩ := h
  intro e
  rw [e] at h3
  exact absurd h3 (by decide)
theorem stopR_lt {v : Int} {s : ByteArray} {i : Int} {flow : Bool} {j : Int} (h : stopR v s i flow j = false) : j < s.size := by
  unfold stopR at h
  simp only [Bool.or_eq_false_iff, decide_eq_false_iff_not] at h
  omega
theorem scanR_stop {v : Int} {s : ByteArray} {i : Int} {flow : Bool} {n : Nat} {k : Int} (h : stopR v s i flow k = true) : scanR v s i flow n k = k := by
  cases n with
  | zero => rfl
  | succ n => rw [scanR, if_pos h]
theorem scanR_next {v : Int} {s : ByteArray} {i : Int} {flow : Bool} {k : Int} (h : stopR v s i flow k = false) : scanR v s i flow (s.size - k).toNat k = scanR v s i flow (s.size - (k + 1)).toNat (k + 1) := by
  have := stopR_lt h
  rw [show (s.size - k).toNat = (s.size - (k + 1)).toNat + 1 from by omega, scanR, if_neg (by rw [h]; decide)]
theorem scanR_ge (v : Int) (s : ByteArray) (i : Int) (flow : Bool) : ∀ (n : Nat) (k : Int), k ≤ scanR v s i flow n k
  | 0, k => Int.le_refl _
  | n + 1, k => by
    unfold scanR
    split
    · exact Int.le_refl _
    · have := scanR_ge v s i flow n (k + 1); omega
theorem scanR_le (v : Int) (s : ByteArray) (i : Int) (flow : Bool) : ∀ (n : Nat) (k : Int), k + n ≤ s.size → scanR v s i flow n k ≤ s.size
  | 0, k, h => by unfold scanR; omega
  | n + 1, k, h => by
    unfold scanR
    split
    · omega
    · exact scanR_le v s i flow n (k + 1) (by omega)
theorem ends_eq {v : Int} {s : ByteArray} {i : Int} {flow : Bool} (h0 : 0 ≤ i) (h35 : byteAt s i.toNat ≠ 35) : endsI v s i flow = backR s i (scanR v s i flow (s.size - i).toNat i - i).toNat := by
  have hst : ∀ k, i ≤ k → stopE v s flow k = stopR v s i flow k := fun k hk => by
    unfold stopE stopR
    rcases Int.lt_or_eq_of_le hk with h | h
    · rw [decide_eq_true h, Bool.true_and]
    · subst h
      have : remI s i = false := by unfold remI; rw [decide_eq_false h35]; simp
      rw [this, Bool.and_false]
  have key : ∀ (n : Nat) (j e : Int), i ≤ j → e = backR s i (j - i).toNat → (endP v s flow n e j).1 = backR s i (scanR v s i flow n j - i).toNat := by
    intro n
    induction n with
    | zero => intro j e hj he; exact he
    | succ n ih =>
      intro j e hj he
      unfold endP scanR
      rw [hst j hj]
      cases hs : stopR v s i flow j with
      | true => rw [if_pos rfl, if_pos rfl]; exact he
      | false =>
        rw [if_neg (by decide)]
        have e1 : (j + 1 - i).toNat = (j - i).toNat + 1 := by omega
        have e2 : i + ((j - i).toNat : Int) = j := by omega
        cases hb : blankI s j with
        | true =>
          rw [if_pos rfl, if_neg (by decide)]
          exact ih (j + 1) e (by omega) (by rw [e1, backR, e2, hb, if_pos rfl]; exact he)
        | false =>
          rw [if_neg (by decide), if_neg (by decide)]
          exact ih (j + 1) (j + 1) (by omega) (by rw [e1, backR, e2, hb, if_neg (by decide)])
  exact key _ i i (Int.le_refl _) (by rw [Int.sub_self]; rfl)
def SJ : CT := (extC (extC SI plain_begins.n plain_begins.s) plain_ends.n plain_ends.s)
theorem SJ_ok : COk Tryd.prog SJ := (extC_ok (extC_ok SI_ok plain_begins.sc plain_begins.sd) plain_ends.sc plain_ends.sd)
theorem SJ_mono : CMono SJ := (extC_mono (extC_mono SI_mono plain_begins.sm) plain_ends.sm)

def plain_Part.s : List Value → Heap → VK → Prop
  | [.int .i64 v, .string s, .int .i64 i, .bool flow], h, K => (s.size ≤ 1000000) ∧ K (.int .i64 (partI v s i flow)) h
  | _, _, _ => False
theorem plain_Part.t (v : Int) (s : ByteArray) (i : Int) (flow : Bool) (h : Heap) (K : VK) : mwp SJ (lt0) plain_Part.m (retK [.t 8] K) (argE 0 [.int .i64 v, .string s, .int .i64 i, .bool flow]) h = (s.size ≤ (1000000 : Nat) ∧ br (!opensI v s i flow) (K (Value.int IntKind.i64 (-1 : Int)) h) ((s.size ≤ (1000000 : Nat) ∧ (0 : Int) ≤ i ∧ i ≤ (↑s.size : Int)) ∧ K (Value.int IntKind.i64 (endsI v s i flow)) h)) := by kernel_rfl
theorem plain_Part.c (v : Int) (s : ByteArray) (i : Int) (flow : Bool) (h : Heap) (K : VK) (hp : s.size ≤ 1000000) (hh : K (.int .i64 (partI v s i flow)) h) : ACalls Tryd.prog plain_Part.n [.int .i64 v, .string s, .int .i64 i, .bool flow] h K := by
  refine acalls_mk SJ_ok plain_Part.ok (LS := lt0) (by simp only [plain_Part.m, LOk, and_true, true_and]) (Nat.le_of_ble_eq_true rfl) (Eq.mpr (plain_Part.t v s i flow h K) ?_)
  unfold partI at hh
  refine ⟨hp, br_intro (fun h1 => ?_) (fun h1 => ?_)⟩
  · simp only [Bool.not_eq_true'] at h1
    rw [h1] at hh; exact hh
  · simp only [Bool.not_eq_false'] at h1
    have h2 := opensI_lt h1
    rw [if_pos h1] at hh
    exact ⟨⟨hp, by omega, by omega⟩, hh⟩
theorem plain_Part.sc : ∀ vs h K, plain_Part.s vs h K → ACalls Tryd.prog plain_Part.n vs h K := by
  intro vs h K hh; unfold plain_Part.s at hh; split at hh
  · exact plain_Part.c _ _ _ _ _ _ hh.1 hh.2
  · exact hh.elim
theorem plain_Part.sm : SpecMono plain_Part.s := by
  intro vs h K K' hk hh; unfold plain_Part.s at hh ⊢; split at hh
  · exact ⟨hh.1, hk _ _ hh.2⟩
  · exact hh.elim
theorem plain_Part.sd : SpecDet plain_Part.s := by
  intro vs h K hh; unfold plain_Part.s at hh; split at hh
  · exact ⟨_, hh.2, hh.1, rfl⟩
  · exact hh.elim

def targumref17_Sign.s : List Value → Heap → VK → Prop
  | [.int .u8 c], h, K => K (.bool (signI c)) h
  | _, _, _ => False
theorem targumref17_Sign.t (c : Int) (h : Heap) (K : VK) : mwp SJ (lt0) targumref17_Sign.m (retK [.t 2] K) (argE 0 [.int .u8 c]) h = (br (decide (c = (44 : Int))) (K (Value.bool true) h) (br (decide (c = (91 : Int))) (K (Value.bool true) h) (br (decide (c = (93 : Int))) (K (Value.bool true) h) (br (decide (c = (123 : Int))) (K (Value.bool true) h) (K (Value.bool (decide (c = (125 : Int)))) h))))) := by kernel_rfl
theorem targumref17_Sign.c (c : Int) (h : Heap) (K : VK) (hh : K (.bool (signI c)) h) : ACalls Tryd.prog targumref17_Sign.n [.int .u8 c] h K := by
  refine acalls_mk SJ_ok targumref17_Sign.ok (LS := lt0) (by simp only [targumref17_Sign.m, LOk, and_true, true_and]) (Nat.le_of_ble_eq_true rfl) (Eq.mpr (targumref17_Sign.t c h K) ?_)
  unfold signI at hh
  repeat' (first | with_reducible refine br_intro (fun hb => ?_) (fun hb => ?_))
  all_goals simp_all
theorem targumref17_Sign.sc : ∀ vs h K, targumref17_Sign.s vs h K → ACalls Tryd.prog targumref17_Sign.n vs h K := by
  intro vs h K hh; unfold targumref17_Sign.s at hh; split at hh
  · exact targumref17_Sign.c _ _ _ hh
  · exact hh.elim
theorem targumref17_Sign.sm : SpecMono targumref17_Sign.s := by
  intro vs h K K' hk hh; unfold targumref17_Sign.s at hh ⊢; split at hh
  · exact hk _ _ hh
  · exact hh.elim
theorem targumref17_Sign.sd : SpecDet targumref17_Sign.s := by
  intro vs h K hh; unfold targumref17_Sign.s at hh; split at hh
  · exact ⟨_, hh, rfl⟩
  · exact hh.elim

def SK : CT := (extC (extC SJ plain_Part.n plain_Part.s) targumref17_Sign.n targumref17_Sign.s)
theorem SK_ok : COk Tryd.prog SK := (extC_ok (extC_ok SJ_ok plain_Part.sc plain_Part.sd) targumref17_Sign.sc targumref17_Sign.sd)
theorem SK_mono : CMono SK := (extC_mono (extC_mono SJ_mono plain_Part.sm) targumref17_Sign.sm)
def targumref17_Stop.s : List Value → Heap → VK → Prop
  | [.int .i64 v, .string s, .int .i64 i, .bool flow], h, K => (s.size ≤ 1000000 ∧ 0 ≤ i) ∧ K (.bool (stopI v s i flow)) h
  | _, _, _ => False
theorem targumref17_Stop.t (v : Int) (s : ByteArray) (i : Int) (flow : Bool) (h : Heap) (K : VK) : mwp SK (lt0) targumref17_Stop.m (retK [.t 8] K) (argE 0 [.int .i64 v, .string s, .int .i64 i, .bool flow]) h = (br (decide ((↑s.size : Int) ≤ i)) (K (Value.bool true) h) (br (blankI s i) (K (Value.bool true) h) (s.size ≤ (1000000 : Nat) ∧ br (decide ((0 : Int) < brkI v s i)) (K (Value.bool true) h) (br flow (((0 : Int) ≤ i ∧ i < (↑s.size : Int)) ∧ K (Value.bool (signI (↑(byteAt s i.toNat).toNat : Int))) h) (K (Value.bool false) h))))) := by kernel_rfl
theorem targumref17_Stop.c (v : Int) (s : ByteArray) (i : Int) (flow : Bool) (h : Heap) (K : VK) (hp : s.size ≤ 1000000 ∧ 0 ≤ i) (hh : K (.bool (stopI v s i flow)) h) : ACalls Tryd.prog targumref17_Stop.n [.int .i64 v, .string s, .int .i64 i, .bool flow] h K := by
  refine acalls_mk SK_ok targumref17_Stop.ok (LS := lt0) (by simp only [targumref17_Stop.m, LOk, and_true, true_and]) (Nat.le_of_ble_eq_true rfl) (Eq.mpr (targumref17_Stop.t v s i flow h K) ?_)
  rw [signI_B]
  unfold stopI at hh
  refine br_intro (fun h1 => ?_) (fun h1 => ?_)
  · rw [h1] at hh; exact hh
  refine br_intro (fun h2 => ?_) (fun h2 => ?_)
  · rw [h1, h2] at hh; exact hh
  refine ⟨hp.1, br_intro (fun h3 => ?_) (fun h3 => ?_)⟩
  · rw [h1, h2, h3] at hh; exact hh
  rw [h1, h2, h3] at hh
  simp only [decide_eq_false_iff_not] at h1
  refine br_intro (fun h4 => ?_) (fun h4 => ?_)
  · subst h4; exact ⟨⟨hp.2, by omega⟩, hh⟩
  · subst h4; exact hh
theorem targumref17_Stop.sc : ∀ vs h K, targumref17_Stop.s vs h K → ACalls Tryd.prog targumref17_Stop.n vs h K := by
  intro vs h K hh; unfold targumref17_Stop.s at hh; split at hh
  · exact targumref17_Stop.c _ _ _ _ _ _ hh.1 hh.2
  · exact hh.elim
theorem targumref17_Stop.sm : SpecMono targumref17_Stop.s := by
  intro vs h K K' hk hh; unfold targumref17_Stop.s at hh ⊢; split at hh
  · exact ⟨hh.1, hk _ _ hh.2⟩
  · exact hh.elim
theorem targumref17_Stop.sd : SpecDet targumref17_Stop.s := by
  intro vs h K hh; unfold targumref17_Stop.s at hh; split at hh
  · exact ⟨_, hh.2, hh.1, rfl⟩
  · exact hh.elim

def SL : CT := (extC SK targumref17_Stop.n targumref17_Stop.s)
theorem SL_ok : COk Tryd.prog SL := (extC_ok SK_ok targumref17_Stop.sc targumref17_Stop.sd)
theorem SL_mono : CMono SL := (extC_mono SK_mono targumref17_Stop.sm)
def targumref17_opens.s : List Value → Heap → VK → Prop
  | [.int .i64 v, .string s, .int .i64 i, .bool flow], h, K => (s.size ≤ 1000000) ∧ K (.bool (opensI v s i flow)) h
  | _, _, _ => False
theorem targumref17_opens.t (v : Int) (s : ByteArray) (i : Int) (flow : Bool) (h : Heap) (K : VK) : mwp SL (lt0) targumref17_opens.m (retK [.t 8] K) (argE 0 [.int .i64 v, .string s, .int .i64 i, .bool flow]) h = (br (decide (i < (0 : Int))) (K (Value.bool false) h) ((s.size ≤ (1000000 : Nat) ∧ (0 : Int) ≤ i) ∧ br (stopI v s i false) (K (Value.bool false) h) (((0 : Int) ≤ i ∧ i < (↑s.size : Int)) ∧ br (signI (↑(byteAt s i.toNat).toNat : Int)) (K (Value.bool false) h) (((0 : Int) ≤ i ∧ i < (↑s.size : Int)) ∧ br (decide ((↑(byteAt s i.toNat).toNat : Int) = (35 : Int))) (br (decide ((↑(byteAt s i.toNat).toNat : Int) = (35 : Int))) (K (Value.bool false) h) (br (decide ((↑(byteAt s i.toNat).toNat : Int) = (45 : Int))) (br (decide ((↑(byteAt s i.toNat).toNat : Int) = (45 : Int))) (rng IntKind.i64 (i + (1 : Int)) ∧ (s.size ≤ (1000000 : Nat) ∧ (0 : Int) ≤ i + (1 : Int)) ∧ K (Value.bool !stopI v s (i + (1 : Int)) flow) h) (K (Value.bool true) h)) (br (decide ((↑(byteAt s i.toNat).toNat : Int) = (63 : Int))) (br (decide ((↑(byteAt s i.toNat).toNat : Int) = (63 : Int))) (rng IntKind.i64 (i + (1 : Int)) ∧ (s.size ≤ (1000000 : Nat) ∧ (0 : Int) ≤ i + (1 : Int)) ∧ K (Value.bool !stopI v s (i + (1 : Int)) flow) h) (K (Value.bool true) h)) (br (decide ((↑(byteAt s i.toNat).toNat : Int) = (58 : Int))) (rng IntKind.i64 (i + (1 : Int)) ∧ (s.size ≤ (1000000 : Nat) ∧ (0 : Int) ≤ i + (1 : Int)) ∧ K (Value.bool !stopI v s (i + (1 : Int)) flow) h) (K (Value.bool true) h))))) (br (decide ((↑(byteAt s i.toNat).toNat : Int) = (38 : Int))) (br (decide ((↑(byteAt s i.toNat).toNat : Int) = (38 : Int))) (K (Value.bool false) h) (br (decide ((↑(byteAt s i.toNat).toNat : Int) = (45 : Int))) (br (decide ((↑(byteAt s i.toNat).toNat : Int) = (45 : Int))) (rng IntKind.i64 (i + (1 : Int)) ∧ (s.size ≤ (1000000 : Nat) ∧ (0 : Int) ≤ i + (1 : Int)) ∧ K (Value.bool !stopI v s (i + (1 : Int)) flow) h) (K (Value.bool true) h)) (br (decide ((↑(byteAt s i.toNat).toNat : Int) = (63 : Int))) (br (decide ((↑(byteAt s i.toNat).toNat : Int) = (63 : Int))) (rng IntKind.i64 (i + (1 : Int)) ∧ (s.size ≤ (1000000 : Nat) ∧ (0 : Int) ≤ i + (1 : Int)) ∧ K (Value.bool !stopI v s (i + (1 : Int)) flow) h) (K (Value.bool true) h)) (br (decide ((↑(byteAt s i.toNat).toNat : Int) = (58 : Int))) (rng IntKind.i64 (i + (1 : Int)) ∧ (s.size ≤ (1000000 : Nat) ∧ (0 : Int) ≤ i + (1 : Int)) ∧ K (Value.bool !stopI v s (i + (1 : Int)) flow) h) (K (Value.bool true) h))))) (br (decide ((↑(byteAt s i.toNat).toNat : Int) = (42 : Int))) (br (decide ((↑(byteAt s i.toNat).toNat : Int) = (42 : Int))) (K (Value.bool false) h) (br (decide ((↑(byteAt s i.toNat).toNat : Int) = (45 : Int))) (br (decide ((↑(byteAt s i.toNat).toNat : Int) = (45 : Int))) (rng IntKind.i64 (i + (1 : Int)) ∧ (s.size ≤ (1000000 : Nat) ∧ (0 : Int) ≤ i + (1 : Int)) ∧ K (Value.bool !stopI v s (i + (1 : Int)) flow) h) (K (Value.bool true) h)) (br (decide ((↑(byteAt s i.toNat).toNat : Int) = (63 : Int))) (br (decide ((↑(byteAt s i.toNat).toNat : Int) = (63 : Int))) (rng IntKind.i64 (i + (1 : Int)) ∧ (s.size ≤ (1000000 : Nat) ∧ (0 : Int) ≤ i + (1 : Int)) ∧ K (Value.bool !stopI v s (i + (1 : Int)) flow) h) (K (Value.bool true) h)) (br (decide ((↑(byteAt s i.toNat).toNat : Int) = (58 : Int))) (rng IntKind.i64 (i + (1 : Int)) ∧ (s.size ≤ (1000000 : Nat) ∧ (0 : Int) ≤ i + (1 : Int)) ∧ K (Value.bool !stopI v s (i + (1 : Int)) flow) h) (K (Value.bool true) h))))) (br (decide ((↑(byteAt s i.toNat).toNat : Int) = (33 : Int))) (br (decide ((↑(byteAt s i.toNat).toNat : Int) = (33 : Int))) (K (Value.bool false) h) (br (decide ((↑(byteAt s i.toNat).toNat : Int) = (45 : Int))) (br (decide ((↑(byteAt s i.toNat).toNat : Int) = (45 : Int))) (rng IntKind.i64 (i + (1 : Int)) ∧ (s.size ≤ (1000000 : Nat) ∧ (0 : Int) ≤ i + (1 : Int)) ∧ K (Value.bool !stopI v s (i + (1 : Int)) flow) h) (K (Value.bool true) h)) (br (decide ((↑(byteAt s i.toNat).toNat : Int) = (63 : Int))) (br (decide ((↑(byteAt s i.toNat).toNat : Int) = (63 : Int))) (rng IntKind.i64 (i + (1 : Int)) ∧ (s.size ≤ (1000000 : Nat) ∧ (0 : Int) ≤ i + (1 : Int)) ∧ K (Value.bool !stopI v s (i + (1 : Int)) flow) h) (K (Value.bool true) h)) (br (decide ((↑(byteAt s i.toNat).toNat : Int) = (58 : Int))) (rng IntKind.i64 (i + (1 : Int)) ∧ (s.size ≤ (1000000 : Nat) ∧ (0 : Int) ≤ i + (1 : Int)) ∧ K (Value.bool !stopI v s (i + (1 : Int)) flow) h) (K (Value.bool true) h))))) (br (decide ((↑(byteAt s i.toNat).toNat : Int) = (124 : Int))) (br (decide ((↑(byteAt s i.toNat).toNat : Int) = (124 : Int))) (K (Value.bool false) h) (br (decide ((↑(byteAt s i.toNat).toNat : Int) = (45 : Int))) (br (decide ((↑(byteAt s i.toNat).toNat : Int) = (45 : Int))) (rng IntKind.i64 (i + (1 : Int)) ∧ (s.size ≤ (1000000 : Nat) ∧ (0 : Int) ≤ i + (1 : Int)) ∧ K (Value.bool !stopI v s (i + (1 : Int)) flow) h) (K (Value.bool true) h)) (br (decide ((↑(byteAt s i.toNat).toNat : Int) = (63 : Int))) (br (decide ((↑(byteAt s i.toNat).toNat : Int) = (63 : Int))) (rng IntKind.i64 (i + (1 : Int)) ∧ (s.size ≤ (1000000 : Nat) ∧ (0 : Int) ≤ i + (1 : Int)) ∧ K (Value.bool !stopI v s (i + (1 : Int)) flow) h) (K (Value.bool true) h)) (br (decide ((↑(byteAt s i.toNat).toNat : Int) = (58 : Int))) (rng IntKind.i64 (i + (1 : Int)) ∧ (s.size ≤ (1000000 : Nat) ∧ (0 : Int) ≤ i + (1 : Int)) ∧ K (Value.bool !stopI v s (i + (1 : Int)) flow) h) (K (Value.bool true) h))))) (br (decide ((↑(byteAt s i.toNat).toNat : Int) = (62 : Int))) (br (decide ((↑(byteAt s i.toNat).toNat : Int) = (62 : Int))) (K (Value.bool false) h) (br (decide ((↑(byteAt s i.toNat).toNat : Int) = (45 : Int))) (br (decide ((↑(byteAt s i.toNat).toNat : Int) = (45 : Int))) (rng IntKind.i64 (i + (1 : Int)) ∧ (s.size ≤ (1000000 : Nat) ∧ (0 : Int) ≤ i + (1 : Int)) ∧ K (Value.bool !stopI v s (i + (1 : Int)) flow) h) (K (Value.bool true) h)) (br (decide ((↑(byteAt s i.toNat).toNat : Int) = (63 : Int))) (br (decide ((↑(byteAt s i.toNat).toNat : Int) = (63 : Int))) (rng IntKind.i64 (i + (1 : Int)) ∧ (s.size ≤ (1000000 : Nat) ∧ (0 : Int) ≤ i + (1 : Int)) ∧ K (Value.bool !stopI v s (i + (1 : Int)) flow) h) (K (Value.bool true) h)) (br (decide ((↑(byteAt s i.toNat).toNat : Int) = (58 : Int))) (rng IntKind.i64 (i + (1 : Int)) ∧ (s.size ≤ (1000000 : Nat) ∧ (0 : Int) ≤ i + (1 : Int)) ∧ K (Value.bool !stopI v s (i + (1 : Int)) flow) h) (K (Value.bool true) h))))) (br (decide ((↑(byteAt s i.toNat).toNat : Int) = (39 : Int))) (br (decide ((↑(byteAt s i.toNat).toNat : Int) = (39 : Int))) (K (Value.bool false) h) (br (decide ((↑(byteAt s i.toNat).toNat : Int) = (45 : Int))) (br (decide ((↑(byteAt s i.toNat).toNat : Int) = (45 : Int))) (rng IntKind.i64 (i + (1 : Int)) ∧ (s.size ≤ (1000000 : Nat) ∧ (0 : Int) ≤ i + (1 : Int)) ∧ K (Value.bool !stopI v s (i + (1 : Int)) flow) h) (K (Value.bool true) h)) (br (decide ((↑(byteAt s i.toNat).toNat : Int) = (63 : Int))) (br (decide ((↑(byteAt s i.toNat).toNat : Int) = (63 : Int))) (rng IntKind.i64 (i + (1 : Int)) ∧ (s.size ≤ (1000000 : Nat) ∧ (0 : Int) ≤ i + (1 : Int)) ∧ K (Value.bool !stopI v s (i + (1 : Int)) flow) h) (K (Value.bool true) h)) (br (decide ((↑(byteAt s i.toNat).toNat : Int) = (58 : Int))) (rng IntKind.i64 (i + (1 : Int)) ∧ (s.size ≤ (1000000 : Nat) ∧ (0 : Int) ≤ i + (1 : Int)) ∧ K (Value.bool !stopI v s (i + (1 : Int)) flow) h) (K (Value.bool true) h))))) (br (decide ((↑(byteAt s i.toNat).toNat : Int) = (34 : Int))) (br (decide ((↑(byteAt s i.toNat).toNat : Int) = (34 : Int))) (K (Value.bool false) h) (br (decide ((↑(byteAt s i.toNat).toNat : Int) = (45 : Int))) (br (decide ((↑(byteAt s i.toNat).toNat : Int) = (45 : Int))) (rng IntKind.i64 (i + (1 : Int)) ∧ (s.size ≤ (1000000 : Nat) ∧ (0 : Int) ≤ i + (1 : Int)) ∧ K (Value.bool !stopI v s (i + (1 : Int)) flow) h) (K (Value.bool true) h)) (br (decide ((↑(byteAt s i.toNat).toNat : Int) = (63 : Int))) (br (decide ((↑(byteAt s i.toNat).toNat : Int) = (63 : Int))) (rng IntKind.i64 (i + (1 : Int)) ∧ (s.size ≤ (1000000 : Nat) ∧ (0 : Int) ≤ i + (1 : Int)) ∧ K (Value.bool !stopI v s (i + (1 : Int)) flow) h) (K (Value.bool true) h)) (br (decide ((↑(byteAt s i.toNat).toNat : Int) = (58 : Int))) (rng IntKind.i64 (i + (1 : Int)) ∧ (s.size ≤ (1000000 : Nat) ∧ (0 : Int) ≤ i + (1 : Int)) ∧ K (Value.bool !stopI v s (i + (1 : Int)) flow) h) (K (Value.bool true) h))))) (br (decide ((↑(byteAt s i.toNat).toNat : Int) = (37 : Int))) (br (decide ((↑(byteAt s i.toNat).toNat : Int) = (37 : Int))) (K (Value.bool false) h) (br (decide ((↑(byteAt s i.toNat).toNat : Int) = (45 : Int))) (br (decide ((↑(byteAt s i.toNat).toNat : Int) = (45 : Int))) (rng IntKind.i64 (i + (1 : Int)) ∧ (s.size ≤ (1000000 : Nat) ∧ (0 : Int) ≤ i + (1 : Int)) ∧ K (Value.bool !stopI v s (i + (1 : Int)) flow) h) (K (Value.bool true) h)) (br (decide ((↑(byteAt s i.toNat).toNat : Int) = (63 : Int))) (br (decide ((↑(byteAt s i.toNat).toNat : Int) = (63 : Int))) (rng IntKind.i64 (i + (1 : Int)) ∧ (s.size ≤ (1000000 : Nat) ∧ (0 : Int) ≤ i + (1 : Int)) ∧ K (Value.bool !stopI v s (i + (1 : Int)) flow) h) (K (Value.bool true) h)) (br (decide ((↑(byteAt s i.toNat).toNat : Int) = (58 : Int))) (rng IntKind.i64 (i + (1 : Int)) ∧ (s.size ≤ (1000000 : Nat) ∧ (0 : Int) ≤ i + (1 : Int)) ∧ K (Value.bool !stopI v s (i + (1 : Int)) flow) h) (K (Value.bool true) h))))) (br (decide ((↑(byteAt s i.toNat).toNat : Int) = (64 : Int))) (br (decide ((↑(byteAt s i.toNat).toNat : Int) = (64 : Int))) (K (Value.bool false) h) (br (decide ((↑(byteAt s i.toNat).toNat : Int) = (45 : Int))) (br (decide ((↑(byteAt s i.toNat).toNat : Int) = (45 : Int))) (rng IntKind.i64 (i + (1 : Int)) ∧ (s.size ≤ (1000000 : Nat) ∧ (0 : Int) ≤ i + (1 : Int)) ∧ K (Value.bool !stopI v s (i + (1 : Int)) flow) h) (K (Value.bool true) h)) (br (decide ((↑(byteAt s i.toNat).toNat : Int) = (63 : Int))) (br (decide ((↑(byteAt s i.toNat).toNat : Int) = (63 : Int))) (rng IntKind.i64 (i + (1 : Int)) ∧ (s.size ≤ (1000000 : Nat) ∧ (0 : Int) ≤ i + (1 : Int)) ∧ K (Value.bool !stopI v s (i + (1 : Int)) flow) h) (K (Value.bool true) h)) (br (decide ((↑(byteAt s i.toNat).toNat : Int) = (58 : Int))) (rng IntKind.i64 (i + (1 : Int)) ∧ (s.size ≤ (1000000 : Nat) ∧ (0 : Int) ≤ i + (1 : Int)) ∧ K (Value.bool !stopI v s (i + (1 : Int)) flow) h) (K (Value.bool true) h))))) (br (decide ((↑(byteAt s i.toNat).toNat : Int) = (96 : Int))) (K (Value.bool false) h) (br (decide ((↑(byteAt s i.toNat).toNat : Int) = (45 : Int))) (br (decide ((↑(byteAt s i.toNat).toNat : Int) = (45 : Int))) (rng IntKind.i64 (i + (1 : Int)) ∧ (s.size ≤ (1000000 : Nat) ∧ (0 : Int) ≤ i + (1 : Int)) ∧ K (Value.bool !stopI v s (i + (1 : Int)) flow) h) (K (Value.bool true) h)) (br (decide ((↑(byteAt s i.toNat).toNat : Int) = (63 : Int))) (br (decide ((↑(byteAt s i.toNat).toNat : Int) = (63 : Int))) (rng IntKind.i64 (i + (1 : Int)) ∧ (s.size ≤ (1000000 : Nat) ∧ (0 : Int) ≤ i + (1 : Int)) ∧ K (Value.bool !stopI v s (i + (1 : Int)) flow) h) (K (Value.bool true) h)) (br (decide ((↑(byteAt s i.toNat).toNat : Int) = (58 : Int))) (rng IntKind.i64 (i + (1 : Int)) ∧ (s.size ≤ (1000000 : Nat) ∧ (0 : Int) ≤ i + (1 : Int)) ∧ K (Value.bool !stopI v s (i + (1 : Int)) flow) h) (K (Value.bool true) h)))))))))))))))))) := by kernel_rfl
theorem targumref17_opens.c (v : Int) (s : ByteArray) (i : Int) (flow : Bool) (h : Heap) (K : VK) (hp : s.size ≤ 1000000) (hh : K (.bool (opensI v s i flow)) h) : ACalls Tryd.prog targumref17_opens.n [.int .i64 v, .string s, .int .i64 i, .bool flow] h K := by
  refine acalls_mk SL_ok targumref17_opens.ok (LS := lt0) (by simp only [targumref17_opens.m, LOk, and_true, true_and]) (Nat.le_of_ble_eq_true rfl) (Eq.mpr (targumref17_opens.t v s i flow h K) ?_)
  rw [signI_B]
  have hn : neverB (byteAt s i.toNat) = (signB (byteAt s i.toNat) || [35, 38, 42, 33, 124, 62, 39, 34, 37, 64, 96].contains (byteAt s i.toNat)) := by
    unfold neverB signB
    rw [Bool.eq_iff_iff]
    simp only [List.contains_iff_mem, List.mem_cons, List.not_mem_nil, or_false, Bool.or_eq_true, or_assoc]
  unfold opensI at hh
  rw [hn] at hh
  unfold wantB at hh
  refine br_intro (fun h1 => ?_) (fun h1 => ?_)
  · simp only [decide_eq_true_eq] at h1
    rw [decide_eq_false (show ¬ 0 ≤ i by omega)] at hh
    exact hh
  · simp only [decide_eq_false_iff_not] at h1
    rw [decide_eq_true (show 0 ≤ i by omega), Bool.true_and] at hh
    refine ⟨⟨hp, by omega⟩, br_intro (fun h2 => ?_) (fun h2 => ?_)⟩
    · rw [h2] at hh; exact hh
    · rw [h2] at hh
      have h3 : i < s.size := by
        unfold stopI at h2
        simp only [Bool.or_eq_false_iff, decide_eq_false_iff_not] at h2
        omega
      refine ⟨by omega, br_intro (fun h4 => ?_) (fun h4 => ?_)⟩
      · rw [h4] at hh; exact hh
      · rw [h4] at hh
        generalize byteAt s i.toNat = c at *
        have k : ∀ x : UInt8, c = x ↔ (c.toNat : Int) = x.toNat := fun x => ⟨fun h => by rw [h], fun h => UInt8.toNat_inj.1 (by omega)⟩
        have hX : [35, 38, 42, 33, 124, 62, 39, 34, 37, 64, 96].contains c = true ↔ (c.toNat : Int) = 35 ∨ (c.toNat : Int) = 38 ∨ (c.toNat : Int) = 42 ∨ (c.toNat : Int) = 33 ∨ (c.toNat : Int) = 124 ∨ (c.toNat : Int) = 62 ∨ (c.toNat : Int) = 39 ∨ (c.toNat : Int) = 34 ∨ (c.toNat : Int) = 37 ∨ (c.toNat : Int) = 64 ∨ (c.toNat : Int) = 96 := by
          simp only [List.contains_iff_mem, List.mem_cons, List.not_mem_nil, or_false]
          rw [k 35, k 38, k 42, k 33, k 124, k 62, k 39, k 34, k 37, k 64, k 96]
          exact Iff.rfl
        have hY : [45, 63, 58].contains c = true ↔ (c.toNat : Int) = 45 ∨ (c.toNat : Int) = 63 ∨ (c.toNat : Int) = 58 := by
          simp only [List.contains_iff_mem, List.mem_cons, List.not_mem_nil, or_false]
          rw [k 45, k 63, k 58]
          exact Iff.rfl
        clear k hn h4 h2
        generalize [35, 38, 42, 33, 124, 62, 39, 34, 37, 64, 96].contains c = X at *
        generalize [45, 63, 58].contains c = Y at *
        generalize (c.toNat : Int) = n at *
        have L1 : X = true → K (.bool false) h := fun q => by rw [q] at hh; exact hh
        have L2 : X = false → Y = false → K (.bool true) h := fun q r => by rw [q, r] at hh; exact hh
        have L3 : X = false → Y = true → K (.bool !stopI v s (i + 1) flow) h := fun q r => by rw [q, r] at hh; exact hh
        have N1 : ¬ (n = 35 ∨ n = 38 ∨ n = 42 ∨ n = 33 ∨ n = 124 ∨ n = 62 ∨ n = 39 ∨ n = 34 ∨ n = 37 ∨ n = 64 ∨ n = 96) → X = false := fun q => Bool.eq_false_iff.2 fun r => q (hX.1 r)
        have N2 : ¬ (n = 45 ∨ n = 63 ∨ n = 58) → Y = false := fun q => Bool.eq_false_iff.2 fun r => q (hY.1 r)
        have P1 := hX.2
        have P2 := hY.2
        have hr : rng .i64 (i + 1) := by simp only [rng]; omega
        clear hX hY hh
        repeat' (first | with_reducible refine br_intro (fun hb => ?_) (fun hb => ?_) | refine And.intro ?_ ?_)
        all_goals (try simp only [decide_eq_true_eq, decide_eq_false_iff_not] at *)
        all_goals first
          | omega
          | exact hr
          | exact L1 (P1 (by omega))
          | exact L2 (N1 (by omega)) (N2 (by omega))
          | exact L3 (N1 (by omega)) (P2 (by omega))
theorem targumref17_opens.sc : ∀ vs h K, targumref17_opens.s vs h K → ACalls Tryd.prog targumref17_opens.n vs h K := by
  intro vs h K hh; unfold targumref17_opens.s at hh; split at hh
  · exact targumref17_opens.c _ _ _ _ _ _ hh.1 hh.2
  · exact hh.elim
theorem targumref17_opens.sm : SpecMono targumref17_opens.s := by
  intro vs h K K' hk hh; unfold targumref17_opens.s at hh ⊢; split at hh
  · exact ⟨hh.1, hk _ _ hh.2⟩
  · exact hh.elim
theorem targumref17_opens.sd : SpecDet targumref17_opens.s := by
  intro vs h K hh; unfold targumref17_opens.s at hh; split at hh
  · exact ⟨_, hh.2, hh.1, rfl⟩
  · exact hh.elim

def targumref17_ends.sp0 : LSpec := ⟨targumref17_ends.cs0, targumref17_ends.ts0, fun vs h K => match vs, h.g 0 with
  | [.int .i64 v, .string s, .int .i64 i, .bool flow, .int .i64 k], _ => h = lit [] ∧ (s.size ≤ 1000000 ∧ 0 ≤ i ∧ i ≤ k ∧ k ≤ s.size) ∧ (K (.exit 0) [.int .i64 v, .string s, .int .i64 i, .bool flow, .int .i64 (scanR v s i flow (s.size - k).toNat k)] (lit []))
  | _, _ => False⟩
theorem targumref17_ends.spm0 : LSpecMono targumref17_ends.sp0 := by
  intro vs h K K' hk hh; unfold targumref17_ends.sp0 at hh ⊢; dsimp only at hh ⊢; split at hh
  · obtain ⟨h2, h3, h4⟩ := hh; exact ⟨h2, h3, hk _ _ _ h4⟩
  · exact hh.elim
theorem targumref17_ends.t0 (v : Int) (s : ByteArray) (i : Int) (flow : Bool) (k : Int) (E : Env) (N : List Value → Heap → Prop) (K : LK) : mwp SL (lt0) targumref17_ends.l0 (lK targumref17_ends.cs0 N K) (zipE targumref17_ends.cs0 [.int .i64 v, .string s, .int .i64 i, .bool flow, .int .i64 k] ++ E) (lit []) = (br (decide (k < (↑s.size : Int))) (s.size ≤ (1000000 : Nat) ∧ br (decide (brkI v s k = (0 : Int))) (((0 : Int) ≤ k ∧ k < (↑s.size : Int)) ∧ br (decide ((↑(byteAt s k.toNat).toNat : Int) = (35 : Int))) (br (decide (i < k)) (rng IntKind.i64 (k - (1 : Int)) ∧ br (blankI s (k - (1 : Int))) (K (Exit.exit (0 : Nat)) [Value.int IntKind.i64 v, Value.string s, Value.int IntKind.i64 i, Value.bool flow, Value.int IntKind.i64 k] (Heap.mk (0 : Nat) [])) (((0 : Int) ≤ k ∧ k < (↑s.size : Int)) ∧ br (decide ((↑(byteAt s k.toNat).toNat : Int) = (58 : Int))) (rng IntKind.i64 (k + (1 : Int)) ∧ (s.size ≤ (1000000 : Nat) ∧ (0 : Int) ≤ k + (1 : Int)) ∧ br (stopI v s (k + (1 : Int)) flow) (K (Exit.exit (0 : Nat)) [Value.int IntKind.i64 v, Value.string s, Value.int IntKind.i64 i, Value.bool flow, Value.int IntKind.i64 k] (Heap.mk (0 : Nat) [])) (br flow (((0 : Int) ≤ k ∧ k < (↑s.size : Int)) ∧ br (signI (↑(byteAt s k.toNat).toNat : Int)) (K (Exit.exit (0 : Nat)) [Value.int IntKind.i64 v, Value.string s, Value.int IntKind.i64 i, Value.bool flow, Value.int IntKind.i64 k] (Heap.mk (0 : Nat) [])) (rng IntKind.i64 (k + (1 : Int)) ∧ N [Value.int IntKind.i64 v, Value.string s, Value.int IntKind.i64 i, Value.bool flow, Value.int IntKind.i64 (k + (1 : Int))] (Heap.mk (0 : Nat) []))) (rng IntKind.i64 (k + (1 : Int)) ∧ N [Value.int IntKind.i64 v, Value.string s, Value.int IntKind.i64 i, Value.bool flow, Value.int IntKind.i64 (k + (1 : Int))] (Heap.mk (0 : Nat) [])))) (br flow (((0 : Int) ≤ k ∧ k < (↑s.size : Int)) ∧ br (signI (↑(byteAt s k.toNat).toNat : Int)) (K (Exit.exit (0 : Nat)) [Value.int IntKind.i64 v, Value.string s, Value.int IntKind.i64 i, Value.bool flow, Value.int IntKind.i64 k] (Heap.mk (0 : Nat) [])) (rng IntKind.i64 (k + (1 : Int)) ∧ N [Value.int IntKind.i64 v, Value.string s, Value.int IntKind.i64 i, Value.bool flow, Value.int IntKind.i64 (k + (1 : Int))] (Heap.mk (0 : Nat) []))) (rng IntKind.i64 (k + (1 : Int)) ∧ N [Value.int IntKind.i64 v, Value.string s, Value.int IntKind.i64 i, Value.bool flow, Value.int IntKind.i64 (k + (1 : Int))] (Heap.mk (0 : Nat) []))))) (((0 : Int) ≤ k ∧ k < (↑s.size : Int)) ∧ br (decide ((↑(byteAt s k.toNat).toNat : Int) = (58 : Int))) (rng IntKind.i64 (k + (1 : Int)) ∧ (s.size ≤ (1000000 : Nat) ∧ (0 : Int) ≤ k + (1 : Int)) ∧ br (stopI v s (k + (1 : Int)) flow) (K (Exit.exit (0 : Nat)) [Value.int IntKind.i64 v, Value.string s, Value.int IntKind.i64 i, Value.bool flow, Value.int IntKind.i64 k] (Heap.mk (0 : Nat) [])) (br flow (((0 : Int) ≤ k ∧ k < (↑s.size : Int)) ∧ br (signI (↑(byteAt s k.toNat).toNat : Int)) (K (Exit.exit (0 : Nat)) [Value.int IntKind.i64 v, Value.string s, Value.int IntKind.i64 i, Value.bool flow, Value.int IntKind.i64 k] (Heap.mk (0 : Nat) [])) (rng IntKind.i64 (k + (1 : Int)) ∧ N [Value.int IntKind.i64 v, Value.string s, Value.int IntKind.i64 i, Value.bool flow, Value.int IntKind.i64 (k + (1 : Int))] (Heap.mk (0 : Nat) []))) (rng IntKind.i64 (k + (1 : Int)) ∧ N [Value.int IntKind.i64 v, Value.string s, Value.int IntKind.i64 i, Value.bool flow, Value.int IntKind.i64 (k + (1 : Int))] (Heap.mk (0 : Nat) [])))) (br flow (((0 : Int) ≤ k ∧ k < (↑s.size : Int)) ∧ br (signI (↑(byteAt s k.toNat).toNat : Int)) (K (Exit.exit (0 : Nat)) [Value.int IntKind.i64 v, Value.string s, Value.int IntKind.i64 i, Value.bool flow, Value.int IntKind.i64 k] (Heap.mk (0 : Nat) [])) (rng IntKind.i64 (k + (1 : Int)) ∧ N [Value.int IntKind.i64 v, Value.string s, Value.int IntKind.i64 i, Value.bool flow, Value.int IntKind.i64 (k + (1 : Int))] (Heap.mk (0 : Nat) []))) (rng IntKind.i64 (k + (1 : Int)) ∧ N [Value.int IntKind.i64 v, Value.string s, Value.int IntKind.i64 i, Value.bool flow, Value.int IntKind.i64 (k + (1 : Int))] (Heap.mk (0 : Nat) []))))) (((0 : Int) ≤ k ∧ k < (↑s.size : Int)) ∧ br (decide ((↑(byteAt s k.toNat).toNat : Int) = (58 : Int))) (rng IntKind.i64 (k + (1 : Int)) ∧ (s.size ≤ (1000000 : Nat) ∧ (0 : Int) ≤ k + (1 : Int)) ∧ br (stopI v s (k + (1 : Int)) flow) (K (Exit.exit (0 : Nat)) [Value.int IntKind.i64 v, Value.string s, Value.int IntKind.i64 i, Value.bool flow, Value.int IntKind.i64 k] (Heap.mk (0 : Nat) [])) (br flow (((0 : Int) ≤ k ∧ k < (↑s.size : Int)) ∧ br (signI (↑(byteAt s k.toNat).toNat : Int)) (K (Exit.exit (0 : Nat)) [Value.int IntKind.i64 v, Value.string s, Value.int IntKind.i64 i, Value.bool flow, Value.int IntKind.i64 k] (Heap.mk (0 : Nat) [])) (rng IntKind.i64 (k + (1 : Int)) ∧ N [Value.int IntKind.i64 v, Value.string s, Value.int IntKind.i64 i, Value.bool flow, Value.int IntKind.i64 (k + (1 : Int))] (Heap.mk (0 : Nat) []))) (rng IntKind.i64 (k + (1 : Int)) ∧ N [Value.int IntKind.i64 v, Value.string s, Value.int IntKind.i64 i, Value.bool flow, Value.int IntKind.i64 (k + (1 : Int))] (Heap.mk (0 : Nat) [])))) (br flow (((0 : Int) ≤ k ∧ k < (↑s.size : Int)) ∧ br (signI (↑(byteAt s k.toNat).toNat : Int)) (K (Exit.exit (0 : Nat)) [Value.int IntKind.i64 v, Value.string s, Value.int IntKind.i64 i, Value.bool flow, Value.int IntKind.i64 k] (Heap.mk (0 : Nat) [])) (rng IntKind.i64 (k + (1 : Int)) ∧ N [Value.int IntKind.i64 v, Value.string s, Value.int IntKind.i64 i, Value.bool flow, Value.int IntKind.i64 (k + (1 : Int))] (Heap.mk (0 : Nat) []))) (rng IntKind.i64 (k + (1 : Int)) ∧ N [Value.int IntKind.i64 v, Value.string s, Value.int IntKind.i64 i, Value.bool flow, Value.int IntKind.i64 (k + (1 : Int))] (Heap.mk (0 : Nat) []))))) (K (Exit.exit (0 : Nat)) [Value.int IntKind.i64 v, Value.string s, Value.int IntKind.i64 i, Value.bool flow, Value.int IntKind.i64 k] (Heap.mk (0 : Nat) []))) (K (Exit.exit (0 : Nat)) [Value.int IntKind.i64 v, Value.string s, Value.int IntKind.i64 i, Value.bool flow, Value.int IntKind.i64 k] (Heap.mk (0 : Nat) []))) := by kernel_rfl
theorem targumref17_ends.lo0 : LOk1 Tryd.prog targumref17_ends.nt targumref17_ends.sp0 (.loop 0 targumref17_ends.l0) := by
  refine loop_resC (σ := Int × ByteArray × Int × Bool × Int) SL_ok SL_mono (lt0_mono) (LS := lt0) (by simp only [targumref17_ends.l0, LOk, and_true, true_and]) rfl rfl (fun ⟨v, s, i, flow, k⟩ => [.int .i64 v, .string s, .int .i64 i, .bool flow, .int .i64 k]) (fun ⟨v, s, i, flow, k⟩ => lit []) (fun ⟨v, s, i, flow, k⟩ => s.size ≤ 1000000 ∧ 0 ≤ i ∧ i ≤ k ∧ k ≤ s.size) (fun ⟨v, s, i, flow, k⟩ => (s.size - k).toNat) 0 (fun ⟨v, s, i, flow, k⟩ K => K (.exit 0) [.int .i64 v, .string s, .int .i64 i, .bool flow, .int .i64 (scanR v s i flow (s.size - k).toNat k)] (lit [])) ?_ ?_
  · intro vs h K hh; unfold targumref17_ends.sp0 at hh; dsimp only at hh; split at hh
    · obtain ⟨h2, hp, hr⟩ := hh
      exact ⟨h2 ▸ rfl, (_, _, _, _, _), .inl ⟨rfl, h2⟩, hp, hr⟩
    · exact hh.elim
  rintro ⟨v, s, i, flow, k⟩ E N K hE hp hN hK
  dsimp only at hp hN hK
  refine Eq.mpr (targumref17_ends.t0 v s i flow k E N (fun x => In 0 (K x))) ?_
  rw [signI_B]
  obtain ⟨hs, h0, hik, hle⟩ := hp
  have go1 : stopR v s i flow k = true → In 0 (K (.exit 0)) [.int .i64 v, .string s, .int .i64 i, .bool flow, .int .i64 k] (lit []) := fun h => .inl (by rw [scanR_stop h] at hK; exact hK)
  have go2 : stopR v s i flow k = false → rng .i64 (k + 1) ∧ N [.int .i64 v, .string s, .int .i64 i, .bool flow, .int .i64 (k + 1)] (lit []) := fun h => by
    have hl := stopR_lt h
    refine ⟨by simp only [rng]; omega, hN (v, s, i, flow, k + 1) _ _ ⟨hs, h0, by dsimp only; omega, by dsimp only; omega⟩ (by dsimp only; omega) ?_ (.inl ⟨rfl, rfl⟩)⟩
    rw [scanR_next h] at hK
    exact hK
  unfold stopR at go1 go2
  refine br_intro (fun h1 => ?_) (fun h1 => ?_)
  · simp only [decide_eq_true_eq] at h1
    have e1 : decide (s.size ≤ k) = false := decide_eq_false (by omega)
    rw [e1] at go1 go2
    have hn := brkI_nn v s k
    refine ⟨hs, br_intro (fun h2 => ?_) (fun h2 => ?_)⟩
    · simp only [decide_eq_true_eq] at h2
      have e2 : decide (0 < brkI v s k) = false := decide_eq_false (by omega)
      rw [e2] at go1 go2
      have r2 : (decide (byteAt s k.toNat = 58) && stopI v s (k + 1) flow) = false → (decide (i < k) && remI s k) = false → br flow ((0 ≤ k ∧ k < s.size) ∧ br (signB (byteAt s k.toNat)) (In 0 (K (.exit 0)) [.int .i64 v, .string s, .int .i64 i, .bool flow, .int .i64 k] (lit [])) (rng .i64 (k + 1) ∧ N [.int .i64 v, .string s, .int .i64 i, .bool flow, .int .i64 (k + 1)] (lit []))) (rng .i64 (k + 1) ∧ N [.int .i64 v, .string s, .int .i64 i, .bool flow, .int .i64 (k + 1)] (lit [])) := fun q r => by
        rw [q, r] at go1 go2
        refine br_intro (fun h8 => ?_) (fun h8 => ?_)
        · rw [h8] at go1 go2 ⊢
          refine ⟨by omega, br_intro (fun hx => ?_) (fun hx => ?_)⟩
          · exact go1 (by rw [hx]; rfl)
          · exact go2 (by rw [hx]; rfl)
        · rw [h8] at go2 ⊢
          exact go2 rfl
      have rest : (decide (i < k) && remI s k) = false → (0 ≤ k ∧ k < s.size) ∧ br (decide (((byteAt s k.toNat).toNat : Int) = 58)) (rng .i64 (k + 1) ∧ (s.size ≤ 1000000 ∧ 0 ≤ k + 1) ∧ br (stopI v s (k + 1) flow) (In 0 (K (.exit 0)) [.int .i64 v, .string s, .int .i64 i, .bool flow, .int .i64 k] (lit [])) (br flow ((0 ≤ k ∧ k < s.size) ∧ br (signB (byteAt s k.toNat)) (In 0 (K (.exit 0)) [.int .i64 v, .string s, .int .i64 i, .bool flow, .int .i64 k] (lit [])) (rng .i64 (k + 1) ∧ N [.int .i64 v, .string s, .int .i64 i, .bool flow, .int .i64 (k + 1)] (lit []))) (rng .i64 (k + 1) ∧ N [.int .i64 v, .string s, .int .i64 i, .bool flow, .int .i64 (k + 1)] (lit [])))) (br flow ((0 ≤ k ∧ k < s.size) ∧ br (signB (byteAt s k.toNat)) (In 0 (K (.exit 0)) [.int .i64 v, .string s, .int .i64 i, .bool flow, .int .i64 k] (lit [])) (rng .i64 (k + 1) ∧ N [.int .i64 v, .string s, .int .i64 i, .bool flow, .int .i64 (k + 1)] (lit []))) (rng .i64 (k + 1) ∧ N [.int .i64 v, .string s, .int .i64 i, .bool flow, .int .i64 (k + 1)] (lit []))) := fun r => by
        refine ⟨by omega, br_intro (fun h4 => ?_) (fun h4 => ?_)⟩
        · have hc : byteAt s k.toNat = 58 := UInt8.toNat_inj.1 (show (byteAt s k.toNat).toNat = 58 by simp only [decide_eq_true_eq] at h4; omega)
          refine ⟨by simp only [rng]; omega, ⟨hs, by omega⟩, br_intro (fun h5 => ?_) (fun h5 => ?_)⟩
          · exact go1 (by rw [h5, hc, r]; rfl)
          · exact r2 (by rw [h5, Bool.and_false]) r
        · have hc : ¬ byteAt s k.toNat = 58 := fun e => by rw [e] at h4; exact absurd h4 (by decide)
          exact r2 (by rw [decide_eq_false hc, Bool.false_and]) r
      refine ⟨by omega, br_intro (fun h3 => ?_) (fun h3 => ?_)⟩
      · have hc : byteAt s k.toNat = 35 := UInt8.toNat_inj.1 (show (byteAt s k.toNat).toNat = 35 by simp only [decide_eq_true_eq] at h3; omega)
        have hrem : remI s k = blankI s (k - 1) := by unfold remI; rw [hc, decide_eq_true (show 0 ≤ k by omega)]; rfl
        refine br_intro (fun h6 => ?_) (fun h6 => ?_)
        · refine ⟨by simp only [rng]; omega, br_intro (fun h7 => ?_) (fun h7 => ?_)⟩
          · exact go1 (by rw [h6, hrem, h7]; rfl)
          · exact rest (by rw [hrem, h7, Bool.and_false])
        · exact rest (by rw [h6, Bool.false_and])
      · have hc : ¬ byteAt s k.toNat = 35 := fun e => by rw [e] at h3; exact absurd h3 (by decide)
        refine rest ?_
        have hrem : remI s k = false := by unfold remI; rw [decide_eq_false hc]; simp
        rw [hrem, Bool.and_false]
    · simp only [decide_eq_false_iff_not] at h2
      exact go1 (by rw [decide_eq_true (show 0 < brkI v s k by omega)]; rfl)
  · simp only [decide_eq_false_iff_not] at h1
    exact go1 (by rw [decide_eq_true (show (s.size : Int) ≤ k by omega)]; rfl)

def targumref17_ends.sp2 : LSpec := ⟨targumref17_ends.cs2, targumref17_ends.ts2, fun vs h K => match vs, h.g 0 with
  | [.string s, .int .i64 i, .int .i64 k], _ => h = lit [] ∧ (s.size ≤ 1000000 ∧ 0 ≤ i ∧ i ≤ k ∧ k ≤ s.size) ∧ (K (.exit 2) [.string s, .int .i64 i, .int .i64 (backR s i (k - i).toNat)] (lit []))
  | _, _ => False⟩
theorem targumref17_ends.spm2 : LSpecMono targumref17_ends.sp2 := by
  intro vs h K K' hk hh; unfold targumref17_ends.sp2 at hh ⊢; dsimp only at hh ⊢; split at hh
  · obtain ⟨h2, h3, h4⟩ := hh; exact ⟨h2, h3, hk _ _ _ h4⟩
  · exact hh.elim
theorem targumref17_ends.t2 (s : ByteArray) (i : Int) (k : Int) (E : Env) (N : List Value → Heap → Prop) (K : LK) : mwp SL (lt0) targumref17_ends.l2 (lK targumref17_ends.cs2 N K) (zipE targumref17_ends.cs2 [.string s, .int .i64 i, .int .i64 k] ++ E) (lit []) = (br (decide (i < k)) (rng IntKind.i64 (k - (1 : Int)) ∧ br (blankI s (k - (1 : Int))) (rng IntKind.i64 (k - (1 : Int)) ∧ N [Value.string s, Value.int IntKind.i64 i, Value.int IntKind.i64 (k - (1 : Int))] (Heap.mk (0 : Nat) [])) (K (Exit.exit (2 : Nat)) [Value.string s, Value.int IntKind.i64 i, Value.int IntKind.i64 k] (Heap.mk (0 : Nat) []))) (K (Exit.exit (2 : Nat)) [Value.string s, Value.int IntKind.i64 i, Value.int IntKind.i64 k] (Heap.mk (0 : Nat) []))) := by kernel_rfl
theorem targumref17_ends.lo2 : LOk1 Tryd.prog targumref17_ends.nt targumref17_ends.sp2 (.loop 2 targumref17_ends.l2) := by
  refine loop_resC (σ := ByteArray × Int × Int) SL_ok SL_mono (lt0_mono) (LS := lt0) (by simp only [targumref17_ends.l2, LOk, and_true, true_and]) rfl rfl (fun ⟨s, i, k⟩ => [.string s, .int .i64 i, .int .i64 k]) (fun ⟨s, i, k⟩ => lit []) (fun ⟨s, i, k⟩ => s.size ≤ 1000000 ∧ 0 ≤ i ∧ i ≤ k ∧ k ≤ s.size) (fun ⟨s, i, k⟩ => (k - i).toNat) 0 (fun ⟨s, i, k⟩ K => K (.exit 2) [.string s, .int .i64 i, .int .i64 (backR s i (k - i).toNat)] (lit [])) ?_ ?_
  · intro vs h K hh; unfold targumref17_ends.sp2 at hh; dsimp only at hh; split at hh
    · obtain ⟨h2, hp, hr⟩ := hh
      exact ⟨h2 ▸ rfl, (_, _, _), .inl ⟨rfl, h2⟩, hp, hr⟩
    · exact hh.elim
  rintro ⟨s, i, k⟩ E N K hE hp hN hK
  dsimp only at hp hN hK
  refine Eq.mpr (targumref17_ends.t2 s i k E N (fun x => In 0 (K x))) ?_
  obtain ⟨hs, h0, h1, h2⟩ := hp
  refine br_intro (fun hb => ?_) (fun hb => ?_)
  · simp only [decide_eq_true_eq] at hb
    have e1 : (k - i).toNat = (k - 1 - i).toNat + 1 := by omega
    have e2 : i + ((k - 1 - i).toNat : Int) = k - 1 := by omega
    rw [e1, backR, e2] at hK
    refine ⟨by simp only [rng]; omega, br_intro (fun hc => ?_) (fun hc => ?_)⟩
    · rw [if_pos hc] at hK
      exact ⟨by simp only [rng]; omega, hN (s, i, k - 1) _ _ ⟨hs, h0, by dsimp only; omega, by dsimp only; omega⟩ (by dsimp only; omega) hK (.inl ⟨rfl, rfl⟩)⟩
    · rw [if_neg (by rw [hc]; decide), show k - 1 + 1 = k from by omega] at hK
      exact .inl hK
  · simp only [decide_eq_false_iff_not] at hb
    obtain rfl : i = k := by omega
    rw [show (i - i).toNat = 0 from by omega, backR] at hK
    exact .inl hK

def targumref17_ends.LS : LT := (extL (extL lt0 0 targumref17_ends.sp0) 2 targumref17_ends.sp2)
theorem targumref17_ends.LS_mono : LMono targumref17_ends.LS := (extL_mono (extL_mono lt0_mono targumref17_ends.spm0) targumref17_ends.spm2)
def targumref17_ends.s : List Value → Heap → VK → Prop
  | [.int .i64 v, .string s, .int .i64 i, .bool flow], h, K => (s.size ≤ 1000000 ∧ 0 ≤ i ∧ i ≤ s.size ∧ byteAt s i.toNat ≠ 35) ∧ K (.int .i64 (endsI v s i flow)) h
  | _, _, _ => False
theorem targumref17_ends.t (v : Int) (s : ByteArray) (i : Int) (flow : Bool) (K : VK) : mwp SL (targumref17_ends.LS) targumref17_ends.m (retK [.t 8] K) (argE 0 [.int .i64 v, .string s, .int .i64 i, .bool flow]) (lit []) = (Heap.mk (0 : Nat) [] = Heap.mk (0 : Nat) [] ∧ (s.size ≤ (1000000 : Nat) ∧ (0 : Int) ≤ i ∧ i ≤ i ∧ i ≤ (↑s.size : Int)) ∧ Heap.mk (0 : Nat) [] = Heap.mk (0 : Nat) [] ∧ (s.size ≤ (1000000 : Nat) ∧ (0 : Int) ≤ i ∧ i ≤ scanR v s i flow ((↑s.size : Int) - i).toNat i ∧ scanR v s i flow ((↑s.size : Int) - i).toNat i ≤ (↑s.size : Int)) ∧ K (Value.int IntKind.i64 (backR s i (scanR v s i flow ((↑s.size : Int) - i).toNat i - i).toNat)) (Heap.mk (0 : Nat) [])) := by kernel_rfl
theorem targumref17_ends.c (v : Int) (s : ByteArray) (i : Int) (flow : Bool) (h : Heap) (K : VK) (hp : s.size ≤ 1000000 ∧ 0 ≤ i ∧ i ≤ s.size ∧ byteAt s i.toNat ≠ 35) (hh : K (.int .i64 (endsI v s i flow)) h) : ACalls Tryd.prog targumref17_ends.n [.int .i64 v, .string s, .int .i64 i, .bool flow] h K := by
  refine ACalls.alone rfl (acalls_mk SL_ok targumref17_ends.ok (LS := targumref17_ends.LS) (by simp only [targumref17_ends.m, LOk, and_true, true_and]; (repeat' apply And.intro) <;> first | trivial | exact targumref17_ends.lo2 | exact targumref17_ends.lo0) (Nat.le_of_ble_eq_true rfl) (Eq.mpr (targumref17_ends.t v s i flow (fun v _ => ck (cleanT v) (K v h))) ?_))
  refine ⟨rfl, ⟨hp.1, hp.2.1, by omega, hp.2.2.1⟩, ?_⟩
  have hge := scanR_ge v s i flow (s.size - i).toNat i
  have hle := scanR_le v s i flow (s.size - i).toNat i (by omega)
  refine ⟨rfl, ⟨hp.1, hp.2.1, by omega, by omega⟩, kint hh ?_⟩
  exact ends_eq hp.2.1 hp.2.2.2
theorem targumref17_ends.sc : ∀ vs h K, targumref17_ends.s vs h K → ACalls Tryd.prog targumref17_ends.n vs h K := by
  intro vs h K hh; unfold targumref17_ends.s at hh; split at hh
  · exact targumref17_ends.c _ _ _ _ _ _ hh.1 hh.2
  · exact hh.elim
theorem targumref17_ends.sm : SpecMono targumref17_ends.s := by
  intro vs h K K' hk hh; unfold targumref17_ends.s at hh ⊢; split at hh
  · exact ⟨hh.1, hk _ _ hh.2⟩
  · exact hh.elim
theorem targumref17_ends.sd : SpecDet targumref17_ends.s := by
  intro vs h K hh; unfold targumref17_ends.s at hh; split at hh
  · exact ⟨_, hh.2, hh.1, rfl⟩
  · exact hh.elim

def SM : CT := (extC (extC SL targumref17_opens.n targumref17_opens.s) targumref17_ends.n targumref17_ends.s)
theorem SM_ok : COk Tryd.prog SM := (extC_ok (extC_ok SL_ok targumref17_opens.sc targumref17_opens.sd) targumref17_ends.sc targumref17_ends.sd)
theorem SM_mono : CMono SM := (extC_mono (extC_mono SL_mono targumref17_opens.sm) targumref17_ends.sm)
def targumref17_Part.s : List Value → Heap → VK → Prop
  | [.int .i64 v, .string s, .int .i64 i, .bool flow], h, K => (s.size ≤ 1000000) ∧ K (.int .i64 (partI v s i flow)) h
  | _, _, _ => False
theorem targumref17_Part.t (v : Int) (s : ByteArray) (i : Int) (flow : Bool) (h : Heap) (K : VK) : mwp SM (lt0) targumref17_Part.m (retK [.t 8] K) (argE 0 [.int .i64 v, .string s, .int .i64 i, .bool flow]) h = (s.size ≤ (1000000 : Nat) ∧ br (!opensI v s i flow) (K (Value.int IntKind.i64 (-1 : Int)) h) ((s.size ≤ (1000000 : Nat) ∧ (0 : Int) ≤ i ∧ i ≤ (↑s.size : Int) ∧ byteAt s i.toNat ≠ (35 : UInt8)) ∧ K (Value.int IntKind.i64 (endsI v s i flow)) h)) := by kernel_rfl
theorem targumref17_Part.c (v : Int) (s : ByteArray) (i : Int) (flow : Bool) (h : Heap) (K : VK) (hp : s.size ≤ 1000000) (hh : K (.int .i64 (partI v s i flow)) h) : ACalls Tryd.prog targumref17_Part.n [.int .i64 v, .string s, .int .i64 i, .bool flow] h K := by
  refine acalls_mk SM_ok targumref17_Part.ok (LS := lt0) (by simp only [targumref17_Part.m, LOk, and_true, true_and]) (Nat.le_of_ble_eq_true rfl) (Eq.mpr (targumref17_Part.t v s i flow h K) ?_)
  unfold partI at hh
  refine ⟨hp, br_intro (fun h1 => ?_) (fun h1 => ?_)⟩
  · simp only [Bool.not_eq_true'] at h1
    rw [h1] at hh; exact hh
  · simp only [Bool.not_eq_false'] at h1
    have h2 := opensI_lt h1
    rw [if_pos h1] at hh
    exact ⟨⟨hp, by omega, by omega, opensI_35 h1⟩, hh⟩
theorem targumref17_Part.sc : ∀ vs h K, targumref17_Part.s vs h K → ACalls Tryd.prog targumref17_Part.n vs h K := by
  intro vs h K hh; unfold targumref17_Part.s at hh; split at hh
  · exact targumref17_Part.c _ _ _ _ _ _ hh.1 hh.2
  · exact hh.elim
theorem targumref17_Part.sm : SpecMono targumref17_Part.s := by
  intro vs h K K' hk hh; unfold targumref17_Part.s at hh ⊢; split at hh
  · exact ⟨hh.1, hk _ _ hh.2⟩
  · exact hh.elim
theorem targumref17_Part.sd : SpecDet targumref17_Part.s := by
  intro vs h K hh; unfold targumref17_Part.s at hh; split at hh
  · exact ⟨_, hh.2, hh.1, rfl⟩
  · exact hh.elim

end Go.Mini
