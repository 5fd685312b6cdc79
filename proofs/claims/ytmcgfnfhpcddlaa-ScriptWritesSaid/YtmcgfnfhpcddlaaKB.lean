/- What the reference's act returns, for all acts. -/
import Derived.Test.YtmcgfnfhpcddlaaKD
import Derived.Test.YtmcgfnfhpcddlaaKE
import Derived.Test.YtmcgfnfhpcddlaaKF
import Derived.Test.YtmcgfnfhpcddlaaKG
set_option linter.unusedVariables false
set_option linter.unusedSimpArgs false
namespace Go.Proofs.Ytmcgfnfhpcddlaa
open Go.RowKit Go.BW

theorem ract_any {a : Act} (hoa : ActOk a) (w : World) : Calls Try.prog 40 #[.agg (actC a).toArray] w (Ret (.bool (rightA a)) w) := by
  by_cases h : 1 ≤ a.k ∧ a.k ≤ 10
  · rcases (show a.k = 1 ∨ a.k = 2 ∨ a.k = 3 ∨ a.k = 4 ∨ a.k = 5 ∨ a.k = 6 ∨ a.k = 7 ∨ a.k = 8 ∨ a.k = 9 ∨ a.k = 10 by omega) with e | e | e | e | e | e | e | e | e | e
    · exact ract_k1 hoa e w
    · exact ract_k2 hoa e w
    · exact ract_k3 hoa e w
    · exact ract_k4 hoa e w
    · exact ract_k5 hoa e w
    · exact ract_k6 hoa e w
    · exact ract_k7 hoa e w
    · exact ract_k8 hoa e w
    · exact ract_k9 hoa e w
    · exact ract_k10 hoa e w
  · exact ract_out hoa h w
end Go.Proofs.Ytmcgfnfhpcddlaa

