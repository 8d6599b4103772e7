/- Written by mini.py: the short forms of functions. No condition. -/
import Derived.Test.YthllhoodbfnlaaaDoorMiniI
import Derived.Test.YthllhoodbfnlaaaDoorProg
namespace Go.Mini
open Go Go.Proofs
set_option maxRecDepth 100000
/-! (*strings.Builder).WriteString -/
def strings_Builder_WriteString.n : Nat := 38
def strings_Builder_WriteString.nt : NT := ⟨19, []⟩
def strings_Builder_WriteString.m : MCode :=
  .seq (.reg [⟨some 4, .mv (.c (.int .i64 0)), none⟩, ⟨some 5, .mv (.c .nilIface), none⟩]) (.seq (.reg [⟨some 6, .mv (.t 0), none⟩, ⟨some 7, .call 64 [.t 6], none⟩]) (.seq (.reg [⟨some 8, .mv (.t 0), none⟩, ⟨some 9, .mv (.t 0), none⟩, ⟨some 10, .nil (.t 9), none⟩, ⟨some 11, .fa 1 (.t 10), none⟩, ⟨some 12, .ld none (.t 11), none⟩, ⟨some 13, .mv (.t 1), none⟩, ⟨some 14, .apps 5 (.t 12) (.t 13), none⟩, ⟨some 15, .nil (.t 8), none⟩, ⟨some 16, .fa 1 (.t 15), none⟩, ⟨none, .st 1 (.t 16) (.t 14), none⟩]) (.seq (.reg [⟨some 17, .mv (.t 1), none⟩, ⟨some 18, .lens (.t 17), none⟩, ⟨some 4, .mv (.t 18), none⟩, ⟨some 5, .mv (.c .nilIface), none⟩]) .ret)))
theorem strings_Builder_WriteString.ok : fnOk Tryd.prog strings_Builder_WriteString.n strings_Builder_WriteString.nt [.t 4, .t 5] strings_Builder_WriteString.m := ⟨_, _, Tryd.func38, rfl, rfl, by kernel_rfl, by kernel_rfl, by kernel_rfl⟩
/-! (*strings.Builder).WriteByte -/
def strings_Builder_WriteByte.n : Nat := 58
def strings_Builder_WriteByte.nt : NT := ⟨17, []⟩
def strings_Builder_WriteByte.m : MCode :=
  .seq (.reg [⟨some 4, .mv (.c .nilIface), none⟩]) (.seq (.reg [⟨some 5, .mv (.t 0), none⟩, ⟨some 6, .call 64 [.t 5], none⟩]) (.seq (.reg [⟨some 7, .mv (.t 0), none⟩, ⟨some 8, .mv (.t 0), none⟩, ⟨some 9, .nil (.t 8), none⟩, ⟨some 10, .fa 1 (.t 9), none⟩, ⟨some 11, .ld none (.t 10), none⟩, ⟨some 12, .mv (.t 1), none⟩, ⟨some 13, .bsl 5 1 1 [.int .u8 0] [(0, 1, .t 12)], none⟩, ⟨some 14, .app 5 1 1 [.int .u8 0] (.t 11) (.t 13), none⟩, ⟨some 15, .nil (.t 7), none⟩, ⟨some 16, .fa 1 (.t 15), none⟩, ⟨none, .st 1 (.t 16) (.t 14), none⟩]) (.seq (.reg [⟨some 4, .mv (.c .nilIface), none⟩]) .ret)))
theorem strings_Builder_WriteByte.ok : fnOk Tryd.prog strings_Builder_WriteByte.n strings_Builder_WriteByte.nt [.t 4] strings_Builder_WriteByte.m := ⟨_, _, Tryd.func58, rfl, rfl, by kernel_rfl, by kernel_rfl, by kernel_rfl⟩
end Go.Mini
