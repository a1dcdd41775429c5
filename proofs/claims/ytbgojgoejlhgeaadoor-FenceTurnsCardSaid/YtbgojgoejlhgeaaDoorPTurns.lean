/- What turns, or fails: what the statement FenceTurns walks to. Conditions: the state and the table of texts lie in memory. -/
import Derived.Test.YtbgojgoejlhgeaaDoorPL
import Derived.Test.YtbgojgoejlhgeaaDoorLTurns
namespace Go.Proofs.YtbgojgoejlhgeaaDoor.Pr
open Go.RowKit Go.Proofs.YtbgojgoejlhgeaaDoorW.PrintWords
/-- the decision, of what is lost -/
def decL (head : Bool) (R H F : List S42) (again : Int) (L : List S42) : Int :=
  match R with
  | [] => 6
  | x :: _ => if L ≠ [] ∧ head = false then (if again > 0 then 4 else 5) else if memS H x.f0 then 1 else if memS F x.f0 then 2 else if L ≠ [] then 5 else 3
theorem decS_L (s : St) : decS s = decL s.head s.R s.H s.F s.again (lostS s) := rfl
/-- the first byte of Rest, neither kept nor flying, is wanted -/
theorem want_first {s : St} {n : Nat} (h : NS s n) {x : S42} {l : List S42} (hR : s.R = x :: l) (h1 : ¬ memS s.H x.f0) (h2 : ¬ memS s.F x.f0) : wantS s ≠ [] := by
  intro hw
  have := (want_norm h).2.1 x.f0
  rw [hw] at this
  exact memS_nil _ (this.2 ⟨by rw [hR]; exact (hR ▸ h.r : Norm (x :: l)).mem_head, h1, h2⟩)
theorem turns_plain {s : St} {n : Nat} (h : NS s n) :
    (decL s.head s.R s.H s.F s.again (wantS s) ≠ 3) ∧ (s.head = true → decS s ≠ 4 ∧ decL s.head s.R s.H s.F s.again (wantS s) ≠ 4) ∧
    (decS s = 5 ∨ decS s = 6 ∨ decS s = 4 → decL s.head s.R s.H s.F s.again (wantS s) = decS s) ∧ (decS s = 3 → decL s.head s.R s.H s.F s.again (wantS s) = 5 ∨ decL s.head s.R s.H s.F s.again (wantS s) = 4) := by
  rw [decS_L]
  cases hR : s.R with
  | nil => simp [decL]
  | cons x l =>
    have hw : ¬ memS s.H x.f0 → ¬ memS s.F x.f0 → wantS s ≠ [] := want_first h hR
    have hl : lostS s = wantS s ∨ lostS s = [] := by unfold lostS; split; exact .inl rfl; exact .inr rfl
    unfold decL
    by_cases a : memS s.H x.f0 <;> by_cases b : memS s.F x.f0 <;> by_cases c : s.head = true <;> by_cases d : wantS s = [] <;> rcases hl with e | e <;> by_cases g : s.again > 0 <;> simp_all <;> (try (split <;> omega))
theorem lost_turned (s : St) (f : Bool) : lostS ⟨s.head, s.R, s.H, s.F, true, f, s.again, s.joins⟩ = wantS s := by
  unfold lostS
  rw [if_pos (.inl rfl)]; rfl
theorem fenceTurns_f (s : St) : ∃ k, mandolinelaw37_FenceTurns.f k s.head s.R s.H s.F s.turned s.failed s.again s.joins = some true := by
  unfold mandolinelaw37_FenceTurns.f
  simp only [awake37.f, Option.bind_some, if_true, great_f]
  by_cases h : Few s
  · obtain ⟨K1, e1⟩ := dec_f h
    have o2 : mandolinelaw37_own.f s.head s.R s.H s.F true s.failed s.again s.joins = some (s.head, ofL s.R, ofL s.H, ofL s.F, true, s.failed, s.again, s.joins) := own_f (s := ⟨s.head, s.R, s.H, s.F, true, s.failed, s.again, s.joins⟩) h
    have o3 : mandolinelaw37_own.f s.head s.R s.H s.F true true s.again s.joins = some (s.head, ofL s.R, ofL s.H, ofL s.F, true, true, s.again, s.joins) := own_f (s := ⟨s.head, s.R, s.H, s.F, true, true, s.again, s.joins⟩) h
    obtain ⟨K2, e2⟩ := dec_f (s := ⟨s.head, s.R, s.H, s.F, true, s.failed, s.again, s.joins⟩) h
    obtain ⟨K3, e3⟩ := dec_f (s := ⟨s.head, s.R, s.H, s.F, true, true, s.again, s.joins⟩) h
    have d2 : decS (ofS ⟨s.head, s.R, s.H, s.F, true, s.failed, s.again, s.joins⟩) = decL s.head (ofL s.R) (ofL s.H) (ofL s.F) s.again (wantS (ofS s)) := by
      rw [decS_L]; exact congrArg _ (lost_turned (ofS s) s.failed)
    have d3 : decS (ofS ⟨s.head, s.R, s.H, s.F, true, true, s.again, s.joins⟩) = decL s.head (ofL s.R) (ofL s.H) (ofL s.F) s.again (wantS (ofS s)) := by
      rw [decS_L]; exact congrArg _ (lost_turned (ofS s) true)
    obtain ⟨p1, p2, p3, p4⟩ := turns_plain (few_norm h)
    refine ⟨K1 + K2 + K3 + 1 + 1, ?_⟩
    rw [show decide (¬ Few s) = false from decide_eq_false (fun hn => hn h)]
    have e1 := e1 (K1 + K2 + K3 + 1) (by omega)
    have e2 := e2 (K1 + K2 + K3 + 1) (by omega)
    have e3 := e3 (K1 + K2 + K3 + 1) (by omega)
    generalize K1 + K2 + K3 = K at *
    dsimp only at e1 e2 e3
    rw [d2] at e2
    rw [d3] at e3
    rw [mandolinelaw37_FenceTurns.j0, if_neg (by decide), own_f h, Option.bind_some, e1, Option.bind_some, o2, Option.bind_some, e2, Option.bind_some, o3, Option.bind_some, e3, Option.bind_some]
    change (decL s.head (ofL s.R) (ofL s.H) (ofL s.F) s.again (wantS (ofS s)) ≠ 3) at p1
    change (s.head = true → decS (ofS s) ≠ 4 ∧ decL s.head (ofL s.R) (ofL s.H) (ofL s.F) s.again (wantS (ofS s)) ≠ 4) at p2
    change (decS (ofS s) = 5 ∨ decS (ofS s) = 6 ∨ decS (ofS s) = 4 → decL s.head (ofL s.R) (ofL s.H) (ofL s.F) s.again (wantS (ofS s)) = decS (ofS s)) at p3
    change (decS (ofS s) = 3 → decL s.head (ofL s.R) (ofL s.H) (ofL s.F) s.again (wantS (ofS s)) = 5 ∨ decL s.head (ofL s.R) (ofL s.H) (ofL s.F) s.again (wantS (ofS s)) = 4) at p4
    generalize decL s.head (ofL s.R) (ofL s.H) (ofL s.F) s.again (wantS (ofS s)) = e at *
    generalize decS (ofS s) = d at *
    have fin : mandolinelaw37_FenceTurns.j1 (K + 1) d e e false = some true := by
      rw [mandolinelaw37_FenceTurns.j1, if_neg (by decide)]
      repeat' split
      all_goals first | rfl | (exfalso; omega) | (simp; omega)
    by_cases hh : s.head = true
    · obtain ⟨q1, q2⟩ := p2 hh
      rw [if_pos hh, if_neg q1, if_neg q2, show (e == 4) = false from by simp [q2]]
      exact fin
    · rw [if_neg hh]
      exact fin
  · refine ⟨1, ?_⟩
    rw [show decide (¬ Few s) = true from decide_eq_true h]
    rw [mandolinelaw37_FenceTurns.j0]
    rfl
theorem fenceTurns_walk {W : World} {s : St} {x : Sx} (hg : GT W) (h : MS W s x) : Calls Tryd.prog 6 #[stV s x] W fun e w' => e = .returned (.bool true) ∧ Below W.heap.size W w' := by
  obtain ⟨k, hf⟩ := fenceTurns_f s
  exact mandolinelaw37_FenceTurns.calls k _ _ _ _ _ _ _ _ _ _ _ _ _ _ true W hg h.r1 h.l1 h.r2 h.l2 h.r3 h.l3 hf
end Go.Proofs.YtbgojgoejlhgeaaDoor.Pr
