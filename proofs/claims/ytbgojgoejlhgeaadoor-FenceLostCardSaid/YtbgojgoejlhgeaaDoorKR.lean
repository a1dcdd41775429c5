/- What the document's functions on states do, in one form. Conditions: the state lies in memory; few spans. -/
import Derived.Test.YtbgojgoejlhgeaaDoorM8
import Derived.Test.YtbgojgoejlhgeaaDoorK1
namespace Go.Proofs.YtbgojgoejlhgeaaDoor.Pr
open Go.RowKit Go.Proofs.YtbgojgoejlhgeaaDoorW.PrintWords Go.Proofs.YtbgojgoejlhgeaaDoorW.PrintMore
section
variable {w : World} {s : St} {x : Sx}
theorem refof_c (h : MS w s x) (l1 : s.R.length < 50000) (l2 : s.H.length < 50000) (l3 : s.F.length < 50000) : Calls Tryd.prog 16 #[stV s x] w (StPost w (ofS s)) := by
  obtain ⟨k, hf⟩ : ∃ k, r37_Of.f k s.head s.R s.H s.F s.turned s.failed s.again s.joins = some (s.head, ofL s.R, ofL s.H, ofL s.F, s.turned, s.failed, s.again, s.joins) :=
    Ev.rounds (Ev.bind (refOf_f s.R l1) (f := fun k t => (r02_Of.f k s.H).bind fun t2 => (r02_Of.f k s.F).bind fun t3 => some (s.head, t, t2, t3, s.turned, s.failed, s.again, s.joins)) (Ev.bind (refOf_f s.H l2) (f := fun k t2 => (r02_Of.f k s.F).bind fun t3 => some (s.head, _, t2, t3, s.turned, s.failed, s.again, s.joins)) (Ev.bind (refOf_f s.F l3) (f := fun _ t3 => some (s.head, _, _, t3, s.turned, s.failed, s.again, s.joins)) (Ev.now _))))
  refine (r37_Of.calls k _ _ _ _ _ _ _ _ _ _ _ _ _ _ _ _ _ _ _ _ _ _ w h.r1 h.l1 h.r2 h.l2 h.r3 h.l3 hf).mono ?_
  rintro e w' ⟨v1, v2, v3, he, h1, h2, h3, hb⟩
  exact st_post (s := ofS s) he h1 h2 h3 hb
theorem refdecide_c (h : MS w s x) (n : NS s 200) : Calls Tryd.prog 15 #[stV s x] w fun e w' => e = .returned (.int .i64 (decS s)) ∧ Below w.heap.size w w' := by
  obtain ⟨k, hf⟩ := (refDecide n).rounds
  exact r37_Decide.calls k _ _ _ _ _ _ _ _ _ _ _ _ _ _ _ w h.r1 h.l1 h.r2 h.l2 h.r3 h.l3 hf
theorem reflost_c (h : MS w s x) (n : NS s 200) : Calls Tryd.prog 27 #[stV s x] w (SlicePost w (lostS s)) := by
  obtain ⟨k, hf⟩ := (refLost n).rounds
  refine (r37_Lost.calls k _ _ _ _ _ _ _ _ _ _ _ _ _ _ _ w h.r1 h.l1 h.r2 h.l2 h.r3 h.l3 hf).mono ?_
  rintro e w' ⟨v, rfl, hr, hb⟩
  obtain ⟨A, c, rfl, a, b⟩ := Kd.R_reads hr
  exact ⟨A, c, rfl, b, a, hb⟩
end
end Go.Proofs.YtbgojgoejlhgeaaDoor.Pr
