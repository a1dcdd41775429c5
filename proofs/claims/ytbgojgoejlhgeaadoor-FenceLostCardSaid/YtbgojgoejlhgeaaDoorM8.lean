/- The document's Lost, Sure and Decide are that plain function, too. Conditions: few spans. -/
import Derived.Test.YtbgojgoejlhgeaaDoorM6
import Derived.Test.YtbgojgoejlhgeaaDoorG7
namespace Go.Proofs.YtbgojgoejlhgeaaDoor.Pr
open Go.RowKit Go.Proofs.YtbgojgoejlhgeaaDoorW.PrintWords Go.Proofs.YtbgojgoejlhgeaaDoorW.PrintMore

theorem refWant {s : St} (h : NS s 200) : Ev (fun k => r37_wanting.f k s.head s.R s.H s.F s.turned s.failed s.again s.joins) (wantS s) := by
  have l1 := h.lr; have l2 := h.lh; have l3 := h.lf
  obtain ⟨n1, _, _, c1⟩ := lessL_spec h.h h.r
  have c2 : (lessL s.H s.R).length < 50000 := by
    have := Nat.le_trans c1 (mul_le l1 l2); omega
  exact Ev.bind (refLess_f s.R s.H h.r h.h (by omega) (by omega)) (f := fun k t => (r02_Less.f k t s.F).bind fun t2 => some t2) (Ev.bind (refLess_f _ s.F n1 h.f c2 (by omega)) (f := fun _ t => some t) (Ev.now _))
theorem refLost {s : St} (h : NS s 200) : Ev (fun k => r37_Lost.f k s.head s.R s.H s.F s.turned s.failed s.again s.joins) (lostS s) := by
  have hw := Ev.bind (refWant h) (f := fun _ t => some t) (Ev.now _)
  unfold lostS
  by_cases h1 : s.turned = true
  · rw [if_pos (.inl h1)]
    exact Ev.congr (fun k => by unfold r37_Lost.f; rw [if_pos h1]) hw
  · by_cases h2 : s.failed = true
    · rw [if_pos (.inr (.inl h2))]
      exact Ev.congr (fun k => by unfold r37_Lost.f; rw [if_neg h1, if_pos h2]) hw
    · by_cases h3 : s.joins = true
      · rw [if_neg (by simp [h1, h2, h3])]
        exact Ev.congr (f := fun _ => some []) (fun k => by unfold r37_Lost.f; rw [if_neg h1, if_neg h2, if_pos h3]) (Ev.now _)
      · rw [if_pos (.inr (.inr (by simpa using h3)))]
        exact Ev.congr (fun k => by unfold r37_Lost.f; rw [if_neg h1, if_neg h2, if_neg h3]) hw
theorem len0 (l : List S42) : ((l.length : Int) == 0) = decide (l = []) := by
  cases l with
  | nil => rfl
  | cons x r => simp; omega
theorem refDecide {s : St} (h : NS s 200) : Ev (fun k => r37_Decide.f k s.head s.R s.H s.F s.turned s.failed s.again s.joins) (decS s) := by
  have l1 := h.lr; have l2 := h.lh; have l3 := h.lf
  by_cases hR : s.R = []
  · have : decS s = 6 := by unfold decS; rw [hR]
    rw [this]
    exact Ev.congr (f := fun _ => some 6) (fun k => by unfold r37_Decide.f; rw [if_pos (by rw [hR]; rfl)]) (Ev.now _)
  · obtain ⟨x, l, hx⟩ : ∃ x l, s.R = x :: l := by
      cases hc : s.R with
      | nil => exact absurd hc hR
      | cons x l => exact ⟨x, l, rfl⟩
    have hd : decS s = if lostS s ≠ [] ∧ s.head = false then (if s.again > 0 then 4 else 5) else if memS s.H x.f0 then 1 else if memS s.F x.f0 then 2 else if lostS s ≠ [] then 5 else 3 := by unfold decS; rw [hx]
    have hlen : ∀ l : List S42, ((l.length : Int) > 0) ↔ l ≠ [] := fun l => by cases l <;> simp
    have hne : ¬ (s.R.length : Int) = 0 := by rw [hx]; simp; omega
    have hpos : (0 : Int) < (s.R.length : Int) := by rw [hx]; simp
    have h0 : rd_T42 s.R 0 = x := by rw [hx]; rfl
    refine Ev.congr (f := fun k => (r37_Lost.f k s.head s.R s.H s.F s.turned s.failed s.again s.joins).bind fun t188 => (if (t188.length : Int) > 0 then (r37_Decide.j0 k t188 (!s.head) s.head s.R s.H s.F s.turned s.failed s.again s.joins) else (r37_Decide.j0 k t188 false s.head s.R s.H s.F s.turned s.failed s.again s.joins))) (fun k => by unfold r37_Decide.f; rw [if_neg hne]) ?_
    refine Ev.bind (refLost h) (f := fun k t188 => (if (t188.length : Int) > 0 then (r37_Decide.j0 k t188 (!s.head) s.head s.R s.H s.F s.turned s.failed s.again s.joins) else (r37_Decide.j0 k t188 false s.head s.R s.H s.F s.turned s.failed s.again s.joins))) ?_
    have j0f : ∀ b : Bool, Ev (fun k => r37_Decide.j0 k (lostS s) b s.head s.R s.H s.F s.turned s.failed s.again s.joins) (if b = true then (if s.again > 0 then 4 else 5) else if memS s.H x.f0 then 1 else if memS s.F x.f0 then 2 else if lostS s ≠ [] then 5 else 3) := by
      intro b
      cases b with
      | true =>
        simp only [↓reduceIte]
        refine Ev.up (f := fun _ => some _) (Ev.now _) fun k => ?_
        simp only [r37_Decide.j0]
        rw [if_pos trivial]
        by_cases ha : s.again > 0
        · rw [if_pos ha, if_pos ha]
        · rw [if_neg ha, if_neg ha]
      | false =>
        simp only [Bool.false_eq_true, ↓reduceIte]
        have hh := In_ev s.H x.f0 (by omega)
        have hf := In_ev s.F x.f0 (by omega)
        refine Ev.up (f := fun k => (r02_In.f k s.H x.f0).bind fun t192 => (if t192 = true then (some 1) else ((r02_In.f k s.F x.f0).bind fun t193 => (if t193 = true then (some 2) else (if ((lostS s).length : Int) > 0 then (some 5) else (some 3)))))) ?_ fun k => ?_
        · refine Ev.bind hh (f := fun k t192 => (if t192 = true then (some 1) else ((r02_In.f k s.F x.f0).bind fun t193 => (if t193 = true then (some 2) else (if ((lostS s).length : Int) > 0 then (some 5) else (some 3)))))) ?_
          by_cases h1 : memS s.H x.f0
          · rw [if_pos h1, decide_eq_true h1]; exact Ev.now _
          · rw [if_neg h1, decide_eq_false h1]
            simp only [Bool.false_eq_true, ↓reduceIte]
            refine Ev.bind hf (f := fun k t193 => (if t193 = true then (some 2) else (if ((lostS s).length : Int) > 0 then (some 5) else (some 3)))) ?_
            by_cases h2 : memS s.F x.f0
            · rw [if_pos h2, decide_eq_true h2]; exact Ev.now _
            · rw [if_neg h2, decide_eq_false h2]
              simp only [Bool.false_eq_true, ↓reduceIte]
              by_cases h4 : lostS s ≠ []
              · rw [if_pos h4, if_pos ((hlen _).2 h4)]; exact Ev.now _
              · rw [if_neg h4, if_neg (fun hc => h4 ((hlen _).1 hc))]; exact Ev.now _
        · simp only [r37_Decide.j0]
          rw [if_neg (by simp), if_pos hpos, h0]
    rw [hd]
    by_cases hl : lostS s = []
    · have hn : ¬ ((lostS s).length : Int) > 0 := fun hc => (hlen _).1 hc hl
      simp only [if_neg hn]
      rw [if_neg (by simp [hl])]
      simpa using j0f false
    · have hn : ((lostS s).length : Int) > 0 := (hlen _).2 hl
      simp only [if_pos hn]
      have := j0f (!s.head)
      cases hh : s.head with
      | true => rw [hh] at this; simpa [hl] using this
      | false => rw [hh] at this; simpa [hl] using this
end Go.Proofs.YtbgojgoejlhgeaaDoor.Pr
