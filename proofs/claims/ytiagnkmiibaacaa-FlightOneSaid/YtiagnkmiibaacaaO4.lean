/- What one flight answers, whatever the numbers and the flight: true. Conditions: the numbers lie in memory. -/
import Derived.Test.YtiagnkmiibaacaaO3
import Derived.Test.YtiagnkmiibaacaaOp
namespace Go.Proofs.Ytiagnkmiibaacaa
open Go.ChangeAt Go.RowKit
theorem one_walk {W : World} {A : Option Addr} {l : List Int} (hl : IS W A l) (c : Nat) (f : Fl) : Calls Try.prog 3 #[.slice A l.length c, .agg (cF f)] W fun e w' => e = .returned (.bool true) ∧ Below W.heap.size W w' := by
  by_cases h1 : l.length ≤ 200
  · by_cases h2 : fewF f
    · cases hs : startB f with
      | true => exact one_goes hl h1 h2 hs
      | false => exact one_refused h1 h2 hs
    · exact one_many (fun h => h2 h.2)
  · exact one_many (fun h => h1 h.1)
end Go.Proofs.Ytiagnkmiibaacaa
