/- Texts by their lists of bytes. -/
import Derived.Test.YtmceepmchfjinaaTagSame
namespace Go.Proofs.Ytmceepmchfjinaa.Q
open Go.RowKit Go.Proofs.YtmceepmchfjinaaW.PrintWords Go.Proofs.YtmceepmchfjinaaW.PrintLast Go.Proofs.YtmceepmchfjinaaW.PrintMore
set_option linter.unusedVariables false
set_option linter.unusedSimpArgs false

theorem at_list (t : ByteArray) (L : List UInt8) (h : t.data.toList = L) (i : Nat) (hi : i < t.size) (c : UInt8) (hc : L[i]? = some c) : t[i] = c := by
  subst h
  have h2 : i < t.data.toList.length := by simpa using hi
  rw [List.getElem?_eq_getElem h2] at hc
  have h3 := Option.some.inj hc
  rw [← h3]
  simp [ByteArray.getElem_eq_getElem_data]

theorem size_list (t : ByteArray) (L : List UInt8) (h : t.data.toList = L) : t.size = L.length := by
  subst h
  simp

end Go.Proofs.Ytmceepmchfjinaa.Q
