/- Which bytes are tag signs, short signs, of a word: by all 256. -/
import Derived.Test.YtmceepmchfjinaaQx2
import Derived.Laws.Strings
import Derived.Lib.IndexBytes
namespace Go.Proofs.Ytmceepmchfjinaa.Q
open Go.RowKit Go.Proofs.YtmceepmchfjinaaW.PrintWords Go.Proofs.YtmceepmchfjinaaW.PrintLast Go.Proofs.YtmceepmchfjinaaW.PrintMore
set_option linter.unusedVariables false
set_option linter.unusedSimpArgs false

/-! ### kinds of bytes -/
def wordB (c : UInt8) : Bool := (97 ≤ c && c ≤ 122) || (65 ≤ c && c ≤ 90) || (48 ≤ c && c ≤ 57)
def shortB (c : UInt8) : Bool := wordB c || [45, 95, 46, 126, 42, 39, 40, 41, 59, 47, 63, 58, 64, 38, 61, 43, 36, 35, 37].contains c
def signB (c : UInt8) : Bool := shortB c || [33, 44, 91, 93].contains c
def handB (c : UInt8) : Bool := wordB c || c == 45

theorem all_bytes {p : UInt8 → Prop} (h : ∀ i : Fin 256, p (UInt8.ofFin i)) (c : UInt8) : p c := h c.toFin

theorem pred_sign (c : UInt8) : tagname_row.pred 20 c = signB c := all_bytes (p := fun c => tagname_row.pred 20 c = signB c) (by decide +kernel) c
theorem pred_short (c : UInt8) : tagname_row.pred 23 c = shortB c := all_bytes (p := fun c => tagname_row.pred 23 c = shortB c) (by decide +kernel) c
theorem pred_hand (c : UInt8) : tagname_row.pred 31 c = handB c := all_bytes (p := fun c => tagname_row.pred 31 c = handB c) (by decide +kernel) c

end Go.Proofs.Ytmceepmchfjinaa.Q
