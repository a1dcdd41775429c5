/- What the statements' functions ask of a state, few spans long. Conditions: at most twelve spans in each set. -/
import Derived.Test.YtbgojgoejlhgeaaDoorAw
namespace Go.Proofs.YtbgojgoejlhgeaaDoor.Pr
open Go.RowKit Go.Proofs.YtbgojgoejlhgeaaDoorW.PrintWords
def Few (s : St) : Prop := s.R.length ≤ 12 ∧ s.H.length ≤ 12 ∧ s.F.length ≤ 12
instance (s : St) : Decidable (Few s) := by unfold Few; exact inferInstance
theorem great_f (s : St) : r37_Great.f s.head s.R s.H s.F s.turned s.failed s.again s.joins = some (decide (¬ Few s)) := by
  unfold r37_Great.f Few
  by_cases a : 12 < s.R.length
  · rw [if_pos (by omega)]; congr 1; symm; rw [decide_eq_true_iff]; omega
  · rw [if_neg (by omega)]
    by_cases b : 12 < s.H.length
    · rw [if_pos (by omega)]; congr 1; symm; rw [decide_eq_true_iff]; omega
    · rw [if_neg (by omega)]
      congr 1
      rw [decide_eq_decide]
      omega
theorem own_f {s : St} (h : Few s) : w37_own.f s.head s.R s.H s.F s.turned s.failed s.again s.joins = some (s.head, ofL s.R, ofL s.H, ofL s.F, s.turned, s.failed, s.again, s.joins) := by
  obtain ⟨h1, h2, h3⟩ := h
  unfold w37_own.f ranges_Of.f
  rw [if_pos (by omega), if_pos (by omega), if_pos (by omega)]; rfl
theorem few_norm {s : St} (h : Few s) : NS (ofS s) 12 := ofS_norm h.1 h.2.1 h.2.2
theorem dec_f {s : St} (h : Few s) : Ev (fun k => fence_Decide.f k s.head (ofL s.R) (ofL s.H) (ofL s.F) s.turned s.failed s.again s.joins) (decS (ofS s)) := progDecide ((few_norm h).mono (by omega))
theorem sure_f {s : St} (h : Few s) : Ev (fun k => fence_Sure.f k s.head (ofL s.R) (ofL s.H) (ofL s.F) s.turned s.failed s.again s.joins) (sureS (ofS s)) := progSure ((few_norm h).mono (by omega))
theorem lost_f {s : St} (h : Few s) : Ev (fun k => fence_Lost.f k s.head (ofL s.R) (ofL s.H) (ofL s.F) s.turned s.failed s.again s.joins) (lostS (ofS s)) := progLost ((few_norm h).mono (by omega))
end Go.Proofs.YtbgojgoejlhgeaaDoor.Pr
