/- Program and document decide alike: what the statement FenceDecides walks to. Conditions: the state and the table of texts lie in memory. -/
import Derived.Test.YtbgojgoejlhgeaaDoorPL
import Derived.Test.YtbgojgoejlhgeaaDoorLDecides
namespace Go.Proofs.YtbgojgoejlhgeaaDoor.Pr
open Go.RowKit Go.Proofs.YtbgojgoejlhgeaaDoorW.PrintWords
theorem fenceDecides_f (s : St) : ∃ k, w37_FenceDecides.f k s.head s.R s.H s.F s.turned s.failed s.again s.joins = some true := by
  unfold w37_FenceDecides.f
  simp only [awake37.f, Option.bind_some, if_true, great_f]
  by_cases h : Few s
  · obtain ⟨K1, e1⟩ := dec_f h
    obtain ⟨K2, e2⟩ : Ev (fun k => r37_Of.f k s.head s.R s.H s.F s.turned s.failed s.again s.joins) (s.head, ofL s.R, ofL s.H, ofL s.F, s.turned, s.failed, s.again, s.joins) := by
      have l1 : s.R.length < 50000 := by have := h.1; omega
      have l2 : s.H.length < 50000 := by have := h.2.1; omega
      have l3 : s.F.length < 50000 := by have := h.2.2; omega
      exact Ev.bind (refOf_f s.R l1) (f := fun k t => (r02_Of.f k s.H).bind fun t2 => (r02_Of.f k s.F).bind fun t3 => some (s.head, t, t2, t3, s.turned, s.failed, s.again, s.joins)) (Ev.bind (refOf_f s.H l2) (f := fun k t2 => (r02_Of.f k s.F).bind fun t3 => some (s.head, _, t2, t3, s.turned, s.failed, s.again, s.joins)) (Ev.bind (refOf_f s.F l3) (f := fun _ t3 => some (s.head, _, _, t3, s.turned, s.failed, s.again, s.joins)) (Ev.now _)))
    obtain ⟨K3, e3⟩ := refDecide ((few_norm h).mono (m := 200) (by omega))
    refine ⟨K1 + K2 + K3 + 1, ?_⟩
    rw [show decide (¬ Few s) = false from decide_eq_false (fun hn => hn h)]
    have e1 := e1 (K1 + K2 + K3) (by omega)
    have e2 := e2 (K1 + K2 + K3) (by omega)
    have e3 := e3 (K1 + K2 + K3) (by omega)
    generalize K1 + K2 + K3 = K at *
    dsimp only at e1 e2 e3
    rw [w37_FenceDecides.j0, if_neg (by decide), own_f h, Option.bind_some, e1, Option.bind_some, e2, Option.bind_some]
    refine (congrArg (fun o => o.bind fun t134 => some (decS (ofS s) == t134)) e3).trans ?_
    simp
  · refine ⟨1, ?_⟩
    rw [show decide (¬ Few s) = true from decide_eq_true h]
    unfold w37_FenceDecides.j0
    rfl
theorem fenceDecides_walk {W : World} {s : St} {x : Sx} (hg : GT W) (h : MS W s x) : Calls Tryd.prog 3 #[stV s x] W fun e w' => e = .returned (.bool true) ∧ Below W.heap.size W w' := by
  obtain ⟨k, hf⟩ := fenceDecides_f s
  exact w37_FenceDecides.calls k _ _ _ _ _ _ _ _ _ _ _ _ _ _ true W hg h.r1 h.l1 h.r2 h.l2 h.r3 h.l3 hf
end Go.Proofs.YtbgojgoejlhgeaaDoor.Pr
