/- How the statements' functions begin: the state in a block of its own, the given answers, few spans. Conditions: the state and the table of texts lie in memory. -/
import Derived.Test.YtbgojgoejlhgeaaDoorPL
namespace Go.Proofs.YtbgojgoejlhgeaaDoor.Pr
open Go.RowKit Go.Proofs.YtbgojgoejlhgeaaDoorW.PrintWords
theorem AW.box {w : World} {s : St} {x : Sx} (h : MS w s x) : AW w w.heap.size s x (w.alloc (.cells (cellsS s x) 24)) :=
  have b : Below w.heap.size w (w.alloc (.cells (cellsS s x) 24)) := (Below.refl _ w).alloc (Nat.le_refl _) _
  ⟨b, Nat.le_refl _, new_obj w _, Kd.C_foot_came k42_heap h.r1 b (Nat.le_refl _), h.l1, Kd.C_foot_came k42_heap h.r2 b (Nat.le_refl _), h.l2, Kd.C_foot_came k42_heap h.r3 b (Nat.le_refl _), h.l3⟩
theorem great_n {w : World} {s : St} {x : Sx} (h : MS w s x) : Calls Tryd.prog 12 #[stV s x] w fun e w' => e = .returned (.bool (decide (¬ Few s))) ∧ Below w.heap.size w w' :=
  r37_Great.calls _ _ _ _ _ _ _ _ _ _ _ _ _ _ _ w h.r1 h.l1 h.r2 h.l2 h.r3 h.l3 (great_f s)
theorem own_few {w : World} {s : St} {x : Sx} (h : MS w s x) (f : Few s) : Calls Tryd.prog 14 #[stV s x] w (StPost w (ofS s)) :=
  own_c h (by have := f.1; omega) (by have := f.2.1; omega) (by have := f.2.2; omega)
theorem sure_plain {s : St} {n : Nat} (h : NS s n) (hs : sureS s = true) : lostS s = [] ∧ decS s ≠ 5 ∧ decS s ≠ 4 ∧ decS s ≠ 3 := by
  have hw : wantS s = [] := of_decide_eq_true hs
  have hl : lostS s = [] := by unfold lostS; split; exact hw; rfl
  refine ⟨hl, ?_⟩
  cases hR : s.R with
  | nil =>
    have : decS s = 6 := by unfold decS; rw [hR]
    rw [this]; decide
  | cons x l =>
    have hx : memS s.H x.f0 ∨ memS s.F x.f0 := by
      have := (want_norm h).2.1 x.f0
      rw [hw] at this
      by_cases a : memS s.H x.f0
      · exact .inl a
      · by_cases b : memS s.F x.f0
        · exact .inr b
        · exact absurd (this.2 ⟨by rw [hR]; exact (hR ▸ h.r : Norm (x :: l)).mem_head, a, b⟩) (memS_nil _)
    have : decS s = if memS s.H x.f0 then 1 else if memS s.F x.f0 then 2 else 3 := by unfold decS; rw [hR]; simp [hl]
    rw [this]
    by_cases a : memS s.H x.f0
    · rw [if_pos a]; decide
    · rw [if_neg a, if_pos (hx.resolve_left a)]; decide
end Go.Proofs.YtbgojgoejlhgeaaDoor.Pr
