/- Any number's text: what the statement FenceTexts walks to. Conditions: the table of texts lies in memory. -/
import Derived.Test.YtbgojgoejlhgeaaDoorLTexts
namespace Go.Proofs.YtbgojgoejlhgeaaDoor.Pr
open Go.RowKit
theorem fenceTexts_walk {W : World} (hg : GT W) (d : Int) : Calls Tryd.prog 5 #[.int .i64 d] W fun e w' => e = .returned (.bool true) ∧ Below W.heap.size W w' := by
  refine mandolinelaw37_FenceTexts.calls d true W hg ?_
  unfold mandolinelaw37_FenceTexts.f awake37.f fence_Text.f mandolineref37_Text.f
  simp
end Go.Proofs.YtbgojgoejlhgeaaDoor.Pr
