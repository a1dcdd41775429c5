/- Whether the document is sure. Conditions: the state lies in memory; few spans. -/
import Derived.Test.YtbgojgoejlhgeaaDoorKR
import Derived.Test.YtbgojgoejlhgeaaDoorG7s
namespace Go.Proofs.YtbgojgoejlhgeaaDoor.Pr
open Go.RowKit Go.Proofs.YtbgojgoejlhgeaaDoorW.PrintWords Go.Proofs.YtbgojgoejlhgeaaDoorW.PrintMore
theorem refSure {s : St} (h : NS s 200) : Ev (fun k => r37_Sure.f k s.head s.R s.H s.F s.turned s.failed s.again s.joins) (sureS s) := by
  have := Ev.bind (refWant h) (f := fun _ t => some ((t.length : Int) == 0)) (Ev.now _)
  rw [len0] at this
  exact this

theorem refsure_c {w : World} {s : St} {x : Sx} (h : MS w s x) (n : NS s 200) : Calls Tryd.prog 18 #[stV s x] w fun e w' => e = .returned (.bool (sureS s)) ∧ Below w.heap.size w w' := by
  obtain ⟨k, hf⟩ := (refSure n).rounds
  exact r37_Sure.calls k _ _ _ _ _ _ _ _ _ _ _ _ _ _ _ w h.r1 h.l1 h.r2 h.l2 h.r3 h.l3 hf
end Go.Proofs.YtbgojgoejlhgeaaDoor.Pr
