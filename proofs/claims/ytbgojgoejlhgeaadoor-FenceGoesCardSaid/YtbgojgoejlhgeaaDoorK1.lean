/- What the functions on states do, in one form. Conditions: the state lies in memory; few spans. -/
import Derived.Test.YtbgojgoejlhgeaaDoorM7
import Derived.Test.YtbgojgoejlhgeaaDoorT2
namespace Go.Proofs.YtbgojgoejlhgeaaDoor.Pr
open Go.RowKit Go.Proofs.YtbgojgoejlhgeaaDoorW.PrintWords Go.Proofs.YtbgojgoejlhgeaaDoorW.PrintMore

/-- a state's three slices -/
structure Sx where
  A1 : Option Addr
  c1 : Nat
  A2 : Option Addr
  c2 : Nat
  A3 : Option Addr
  c3 : Nat
abbrev stV (s : St) (x : Sx) : Value := .agg #[.bool s.head, .slice x.A1 s.R.length x.c1, .slice x.A2 s.H.length x.c2, .slice x.A3 s.F.length x.c3, .bool s.turned, .bool s.failed, .int .i64 s.again, .bool s.joins]
structure MS (w : World) (s : St) (x : Sx) : Prop where
  r1 : Kd.C k42 w x.A1 s.R.length s.R
  l1 : s.R.length ≤ x.c1
  r2 : Kd.C k42 w x.A2 s.H.length s.H
  l2 : s.H.length ≤ x.c2
  r3 : Kd.C k42 w x.A3 s.F.length s.F
  l3 : s.F.length ≤ x.c3
theorem MS.below {w w' : World} {s : St} {x : Sx} (h : MS w s x) (b : Below w.heap.size w w') : MS w' s x :=
  ⟨Kd.C_below h.r1 b, h.l1, Kd.C_below h.r2 b, h.l2, Kd.C_below h.r3 b, h.l3⟩
def ofS (s : St) : St := ⟨s.head, ofL s.R, ofL s.H, ofL s.F, s.turned, s.failed, s.again, s.joins⟩
theorem ofS_norm {s : St} {n : Nat} (h1 : s.R.length ≤ n) (h2 : s.H.length ≤ n) (h3 : s.F.length ≤ n) : NS (ofS s) n :=
  ⟨(ofL_spec _).1, (ofL_spec _).1, (ofL_spec _).1, Nat.le_trans (ofL_spec s.R).2.2 h1, Nat.le_trans (ofL_spec s.H).2.2 h2, Nat.le_trans (ofL_spec s.F).2.2 h3⟩
theorem NS.mono {s : St} {n m : Nat} (h : NS s n) (hm : n ≤ m) : NS s m := ⟨h.r, h.h, h.f, Nat.le_trans h.lr hm, Nat.le_trans h.lh hm, Nat.le_trans h.lf hm⟩
/-- a state that is handed back -/
def StPost (w : World) (s : St) (e : Ending) (w' : World) : Prop := ∃ x, e = .returned (stV s x) ∧ MS w' s x ∧ Below w.heap.size w w'
theorem st_post {w w' : World} {s : St} {v1 v2 v3 : Value} {e : Ending} {ok1 ok2 ok3 : Nat → Prop} (he : e = .returned (.agg #[.bool s.head, v1, v2, v3, .bool s.turned, .bool s.failed, .int .i64 s.again, .bool s.joins]))
    (h1 : Kd.R k42 42 w' w.heap.size ok1 v1 s.R) (h2 : Kd.R k42 42 w' w.heap.size ok2 v2 s.H) (h3 : Kd.R k42 42 w' w.heap.size ok3 v3 s.F) (hb : Below w.heap.size w w') : StPost w s e w' := by
  obtain ⟨A1, c1, rfl, a1, b1⟩ := Kd.R_reads h1
  obtain ⟨A2, c2, rfl, a2, b2⟩ := Kd.R_reads h2
  obtain ⟨A3, c3, rfl, a3, b3⟩ := Kd.R_reads h3
  exact ⟨⟨A1, c1, A2, c2, A3, c3⟩, he, ⟨b1, a1, b2, a2, b3, a3⟩, hb⟩
section
variable {w : World} {s : St} {x : Sx}
theorem own_c (h : MS w s x) (l1 : s.R.length < 50000) (l2 : s.H.length < 50000) (l3 : s.F.length < 50000) : Calls Tryd.prog 14 #[stV s x] w (StPost w (ofS s)) := by
  have hf : w37_own.f s.head s.R s.H s.F s.turned s.failed s.again s.joins = some (s.head, ofL s.R, ofL s.H, ofL s.F, s.turned, s.failed, s.again, s.joins) := by
    unfold w37_own.f ranges_Of.f
    rw [if_pos (by omega), if_pos (by omega), if_pos (by omega)]; rfl
  refine (w37_own.calls _ _ _ _ _ _ _ _ _ _ _ _ _ _ _ _ _ _ _ _ _ _ w h.r1 h.l1 h.r2 h.l2 h.r3 h.l3 hf).mono ?_
  rintro e w' ⟨v1, v2, v3, he, h1, h2, h3, hb⟩
  exact st_post (s := ofS s) he h1 h2 h3 hb
theorem great_c (h : MS w s x) : Calls Tryd.prog 12 #[stV s x] w fun e w' => e = .returned (.bool (decide (12 < s.R.length ∨ 12 < s.H.length ∨ 12 < s.F.length))) ∧ Below w.heap.size w w' := by
  have hf : r37_Great.f s.head s.R s.H s.F s.turned s.failed s.again s.joins = some (decide (12 < s.R.length ∨ 12 < s.H.length ∨ 12 < s.F.length)) := by
    unfold r37_Great.f
    by_cases a : 12 < s.R.length
    · rw [if_pos (by omega)]; simp [a]
    · rw [if_neg (by omega)]
      by_cases b : 12 < s.H.length
      · rw [if_pos (by omega)]; simp [b]
      · rw [if_neg (by omega)]
        congr 1
        rw [decide_eq_decide]
        omega
  exact r37_Great.calls _ _ _ _ _ _ _ _ _ _ _ _ _ _ _ w h.r1 h.l1 h.r2 h.l2 h.r3 h.l3 hf
theorem decide_c (h : MS w s x) (n : NS s 900) : Calls Tryd.prog 13 #[stV s x] w fun e w' => e = .returned (.int .i64 (decS s)) ∧ Below w.heap.size w w' := by
  obtain ⟨k, hf⟩ := (progDecide n).rounds
  exact fence_Decide.calls k _ _ _ _ _ _ _ _ _ _ _ _ _ _ _ w h.r1 h.l1 h.r2 h.l2 h.r3 h.l3 hf
theorem sure_c (h : MS w s x) (n : NS s 900) : Calls Tryd.prog 17 #[stV s x] w fun e w' => e = .returned (.bool (sureS s)) ∧ Below w.heap.size w w' := by
  obtain ⟨k, hf⟩ := (progSure n).rounds
  exact fence_Sure.calls k _ _ _ _ _ _ _ _ _ _ _ _ _ _ _ w h.r1 h.l1 h.r2 h.l2 h.r3 h.l3 hf
/-- a set that is handed back -/
def SetPost (w : World) (l : List S42) (e : Ending) (w' : World) : Prop := ∃ A c, e = .returned (.agg #[.slice A l.length c]) ∧ Kd.C k42 w' A l.length l ∧ l.length ≤ c ∧ Below w.heap.size w w'
def SlicePost (w : World) (l : List S42) (e : Ending) (w' : World) : Prop := ∃ A c, e = .returned (.slice A l.length c) ∧ Kd.C k42 w' A l.length l ∧ l.length ≤ c ∧ Below w.heap.size w w'
theorem lost_c (h : MS w s x) (n : NS s 900) : Calls Tryd.prog 19 #[stV s x] w (SetPost w (lostS s)) := by
  obtain ⟨k, hf⟩ := (progLost n).rounds
  refine (fence_Lost.calls k _ _ _ _ _ _ _ _ _ _ _ _ _ _ _ w h.r1 h.l1 h.r2 h.l2 h.r3 h.l3 hf).mono ?_
  rintro e w' ⟨v, rfl, hr, hb⟩
  obtain ⟨A, c, rfl, a, b⟩ := Kd.R_reads hr
  exact ⟨A, c, rfl, b, a, hb⟩
theorem spans_c (a b : Int) (w : World) : Calls Tryd.prog 33 #[.int .i64 a, .int .i64 b] w (SlicePost w [⟨a, b⟩]) := by
  refine (w37_spans.calls a b [⟨a, b⟩] w rfl).mono ?_
  rintro e w' ⟨v, rfl, hr, hb⟩
  obtain ⟨A, c, rfl, a, b⟩ := Kd.R_reads hr
  exact ⟨A, c, rfl, b, a, hb⟩
end
section
variable {w : World} {l : List S42} {A : Option Addr} {c : Nat}
theorem len_c (h : Kd.C k42 w A l.length l) (hc : l.length ≤ c) (n : Norm l) (hl : l.length < 8796093022208) : Calls Tryd.prog 20 #[.agg #[.slice A l.length c]] w fun e w' => e = .returned (.int .i64 (lenL l)) ∧ Below w.heap.size w w' := by
  obtain ⟨k, hf⟩ := (len_ev n hl).rounds
  exact ranges_Set_Len.calls k _ _ _ _ w h hc hf
theorem has_c (h : Kd.C k42 w A l.length l) (hc : l.length ≤ c) (n : Norm l) (hl : l.length < 8796093022208) (a : Int) : Calls Tryd.prog 24 #[.agg #[.slice A l.length c], .int .i64 a] w fun e w' => e = .returned (.bool (decide (memS l a))) ∧ Below w.heap.size w w' :=
  ranges_Set_Has.calls _ _ _ _ _ w h hc (has_f n hl a)
theorem text_c (h : Kd.C k42 w A 1 [⟨5, 9⟩]) : Calls Tryd.prog 34 #[.agg #[.slice A 1 c]] w fun e w' => e = .returned (.string ⟨#[53, 45, 57]⟩) ∧ Below w.heap.size w w' := settext34 h
end
end Go.Proofs.YtbgojgoejlhgeaaDoor.Pr
