/- The library's table lies where a row's condition says so. -/
import Derived.Test.YtoinkofoaodkhaaDoorRows
import Derived.Test.YtoinkofoaodkhaaDoorC
import Derived.Lib.LaidTab
namespace Go.Proofs.YtoinkofoaodkhaaDoor
open Go.RowKit Go.BW Go.BW.Bit

theorem gTab : Tryd.prog.globalNamed "math/bits.deBruijn64tab" = some 0 := by kernel_rfl
theorem tTab : (Tryd.prog.globals[0]?).map (·.type) = some 61 := by kernel_rfl
def zsTab : List Int := Lib.deBruijn64tab.map fun (n : Nat) => (n : Int)
theorem tab_of {W : World} (h : laidMet Tryd.prog [("math/bits.deBruijn64tab", Rows.laid_math_bits_deBruijn64tab)] W) : Tab W := by
  have h1 : Lib.TabIs Tryd.prog W "math/bits.deBruijn64tab" .u8 zsTab := Lib.tabIs_of_head gTab tTab Tryd.underlying61 Tryd.underlying5 (by kernel_rfl) (by kernel_rfl) h
  intro j hj
  have := h1.cell gTab j (by show j < 64; exact hj)
  rw [this]
  congr 2
  unfold zsTab
  simp [List.getD_eq_getElem?_getD, List.getElem?_map]
  cases Lib.deBruijn64tab[j]? <;> rfl
end Go.Proofs.YtoinkofoaodkhaaDoor

