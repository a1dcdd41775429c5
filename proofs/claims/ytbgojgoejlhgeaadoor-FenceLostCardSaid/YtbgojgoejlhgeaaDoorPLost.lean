/- Just what the document says is lost: what the statement FenceLost walks to. Conditions: the state and the table of texts lie in memory. -/
import Derived.Test.YtbgojgoejlhgeaaDoorPre
import Derived.Test.YtbgojgoejlhgeaaDoorKR
import Derived.Test.YtbgojgoejlhgeaaDoorC2
import Derived.Test.YtbgojgoejlhgeaaDoorG8s
namespace Go.Proofs.YtbgojgoejlhgeaaDoor.Pr
open Go.RowKit Go.Proofs.YtbgojgoejlhgeaaDoorW.PrintWords
theorem same_self (l : List S42) (hl : l.length < 50000) : Ev (fun k => r02_Same.f k l l) true := by
  have loop : ∀ x : List S42, x.length < 1000000 → Ev (fun k => r02_Same.l0 k x x 0) true := by
    intro x hx
    suffices ∀ d i, x.length - i = d → i ≤ x.length → Ev (fun k => r02_Same.l0 k x x (i : Int)) true from this x.length 0 rfl (Nat.zero_le _)
    intro d
    induction d with
    | zero =>
      intro i hd hi
      obtain rfl : i = x.length := by omega
      refine Ev.up (Ev.now true) fun k => ?_
      rw [r02_Same.l0, if_neg (by omega)]
    | succ d ih =>
      intro i hd hi
      refine Ev.up (ih (i + 1) (by omega) (by omega)) fun k => ?_
      rw [r02_Same.l0, if_pos (by omega), if_pos (by omega), if_pos (by omega), wrap_nat (by omega), if_neg (by simp)]
  have h := refOf_f l hl
  have := loop (ofL l) (by have := (ofL_spec l).2.2; omega)
  exact Ev.bind h (f := fun k t => (r02_Of.f k l).bind fun t2 => (if (t.length : Int) = (t2.length : Int) then (r02_Same.l0 k t t2 0) else (some false)))
    (Ev.bind h (f := fun k t2 => if ((ofL l).length : Int) = (t2.length : Int) then (r02_Same.l0 k (ofL l) t2 0) else (some false)) (Ev.congr (fun k => if_pos rfl) this))
theorem spans26 {w : World} {l : List S42} {A : Option Addr} {c : Nat} (h : Kd.C k42 w A l.length l) (hc : l.length ≤ c) (hl : l.length < 50000) : Calls Tryd.prog 26 #[.agg #[.slice A l.length c]] w (SlicePost w l) := by
  refine (ranges_Set_Spans.calls _ _ _ l w h hc (by unfold ranges_Set_Spans.f slices_Clone42.f; rw [if_pos (by omega)]; rfl)).mono ?_
  rintro e w' ⟨v, rfl, hr, hb⟩
  obtain ⟨A, c, rfl, a, b⟩ := Kd.R_reads hr
  exact ⟨A, c, rfl, b, a, hb⟩
theorem same25 {w : World} {l : List S42} {A B : Option Addr} {c d : Nat} (h : Kd.C k42 w A l.length l) (hc : l.length ≤ c) (h' : Kd.C k42 w B l.length l) (hd : l.length ≤ d) (hl : l.length < 50000) : Calls Tryd.prog 25 #[.slice A l.length c, .slice B l.length d] w fun e w' => e = .returned (.bool true) ∧ Below w.heap.size w w' := by
  obtain ⟨k, hf⟩ := (same_self l hl).rounds
  exact r02_Same.calls k _ _ _ _ _ _ _ w h hc h' hd hf
theorem lost_small {s : St} (h : Few s) : (lostS (ofS s)).length < 50000 := by
  have : (lostS (ofS s)).length ≤ 12 * (12 + 1) * (12 + 1) := (lost_norm (few_norm h)).2
  omega
theorem reg4 {w w' : World} {g g2 : Nat} {s : St} {x : Sx} {v : Value} (h : w.heap[g]? = some (.cells (cellsS s x) 24 (0, 0))) (h2 : w.heap[g2]? = some (.cells #[v] 29 (0, 0))) (b : Below w.heap.size w w') : Below w.heap.size w w' ∧
    w'.cell? ⟨g, 0, none⟩ = some (.bool s.head) ∧ w'.cell? ⟨g, 1, none⟩ = some (.slice x.A1 s.R.length x.c1) ∧ w'.cell? ⟨g, 2, none⟩ = some (.slice x.A2 s.H.length x.c2) ∧ w'.cell? ⟨g, 3, none⟩ = some (.slice x.A3 s.F.length x.c3) ∧ w'.cell? ⟨g, 4, none⟩ = some (.bool s.turned) ∧ w'.cell? ⟨g, 5, none⟩ = some (.bool s.failed) ∧ w'.cell? ⟨g, 6, none⟩ = some (.int .i64 s.again) ∧ w'.cell? ⟨g, 7, none⟩ = some (.bool s.joins) ∧ w'.cell? ⟨g2, 0, none⟩ = some v :=
  ⟨b, cellO (blk_of h b) rfl, cellO (blk_of h b) rfl, cellO (blk_of h b) rfl, cellO (blk_of h b) rfl, cellO (blk_of h b) rfl, cellO (blk_of h b) rfl, cellO (blk_of h b) rfl, cellO (blk_of h b) rfl, cellO (blk_of h2 b) rfl⟩
set_option maxRecDepth 100000 in
theorem fenceLost_few {W : World} {s : St} {x : Sx} (hg : GT W) (h : MS W s x) (hf : Few s) : Calls Tryd.prog 8 #[stV s x] W fun e w' => e = .returned (.bool true) ∧ Below W.heap.size W w' := by
  have HG := Lib.hid hg
  have HA := Lib.hid (AW.box h)
  have HF := Lib.hid hf
  have hgr : decide (¬ Few s) = false := decide_eq_false (fun hn => hn hf)
  clear hg h hf
  go_enter Tryd.func8, Tryd.ntmps8
  go_upto_region 1 with fail
  show Code.wp _ _ _ _ (W.alloc (.cells (cellsS s x) 24))
  generalize (W.alloc (.cells (cellsS s x) 24)) = w1 at HA ⊢
  generalize W.heap.size = g at HA ⊢
  go_wp2_with fail
  refine (awake11 (HG.out.below HA.out.bel)).mono ?_
  rintro e w2 ⟨rfl, b2⟩
  have HS := Lib.hid (HA.out.call b2)
  clear HA b2
  obtain ⟨q0, q1, q2, q3, q4, q5, q6, q7⟩ := cells8 HS.out.blk
  go_wp2_with fail
  refine (great_n HS.out.ms).mono ?_
  rintro e w3 ⟨rfl, b3⟩
  rw [hgr]
  have HS3 := Lib.hid (HS.out.call b3)
  clear HS b3 q0 q1 q2 q3 q4 q5 q6 q7 hgr
  obtain ⟨q0, q1, q2, q3, q4, q5, q6, q7⟩ := cells8 HS3.out.blk
  go_wp2_with fail
  refine (own_few HS3.out.ms HF.out).mono ?_
  rintro e w4 ⟨x4, rfl, m4, b4⟩
  have HS4 := Lib.hid (HS3.out.call b4)
  have HM4 := Lib.hid m4
  clear HS3 b4 m4 q0 q1 q2 q3 q4 q5 q6 q7
  go_wp2_with fail
  refine (lost_c HM4.out ((few_norm HF.out).mono (by omega))).mono ?_
  have HL := Lib.hid (lost_small HF.out)
  have HR := Lib.hid (fun (w : World) (x' : Sx) (hm : MS w (ofS s) x') => reflost_c hm ((few_norm HF.out).mono (by omega)))
  generalize lostS (ofS s) = L at HL HR ⊢
  rintro e w5 ⟨A5, c5, rfl, r5, l5, b5⟩
  have HS5 := Lib.hid (HS4.out.call b5)
  have HR5 := Lib.hid r5
  clear HS4 HM4 b5 r5
  go_upto_region 4 with fail
  have ba := (Below.refl _ w5).alloc (Nat.le_refl _) (.cells #[.slice A5 L.length c5] 29)
  have HN := Lib.hid (new_obj w5 (.cells #[.slice A5 L.length c5] 29))
  have HS6 := Lib.hid (HS5.out.call ba)
  have HR6 := Lib.hid (Kd.C_below HR5.out ba)
  clear HS5 HR5 ba
  generalize w5.alloc (.cells #[.slice A5 L.length c5] 29) = w6 at HN HS6 HR6 ⊢
  generalize w5.heap.size = g2 at HN ⊢
  go_region_held3 (fun X => Below w6.heap.size w6 X ∧ X.cell? ⟨g, 0, none⟩ = some (.bool s.head) ∧ X.cell? ⟨g, 1, none⟩ = some (.slice x.A1 s.R.length x.c1) ∧ X.cell? ⟨g, 2, none⟩ = some (.slice x.A2 s.H.length x.c2) ∧ X.cell? ⟨g, 3, none⟩ = some (.slice x.A3 s.F.length x.c3) ∧ X.cell? ⟨g, 4, none⟩ = some (.bool s.turned) ∧ X.cell? ⟨g, 5, none⟩ = some (.bool s.failed) ∧ X.cell? ⟨g, 6, none⟩ = some (.int .i64 s.again) ∧ X.cell? ⟨g, 7, none⟩ = some (.bool s.joins) ∧ X.cell? ⟨g2, 0, none⟩ = some (.slice A5 L.length c5))
    (first
      | exact reg4 HS6.out.blk HN.out (below_drew1 (Below.refl _ w6))
      | exact reg4 HS6.out.blk HN.out (bel_call (by assumption) hb))
    (first
      | (go_at_call 26; refine (spans26 (Kd.C_below HR6.out (And.left (by assumption))) l5 HL.out).mono ?_; rintro e y1 ⟨A1, c1, rfl, s1, e1, hb⟩; have hlast := bel_call (by assumption) hb)
      | (go_at_call 16; refine (refof_c (HS6.out.ms.below (And.left (by assumption))) (by have := HF.out.1; omega) (by have := HF.out.2.1; omega) (by have := HF.out.2.2; omega)).mono ?_; rintro e y2 ⟨x2, rfl, m2, hb⟩; have s1 := Kd.C_below s1 hb; have hlast := bel_call (by assumption) hb)
      | (go_at_call 27; refine (HR.out _ _ m2).mono ?_; rintro e y3 ⟨A3, c3, rfl, s3, e3, hb⟩; have s1 := Kd.C_below s1 hb; have hlast := bel_call (by assumption) hb)
      | (go_at_call 25; refine (same25 s1 e1 s3 e3 HL.out).mono ?_; rintro e y4 ⟨rfl, hb⟩; have hlast := bel_call (by assumption) hb))
  all_goals
    go_wp2_with fail
    go_ret
    exact ⟨rfl, HS6.out.bel.trans (hlast.mono HS6.out.bel.size)⟩
set_option maxRecDepth 100000 in
theorem fenceLost_many {W : World} {s : St} {x : Sx} (hg : GT W) (h : MS W s x) (hf : ¬ Few s) : Calls Tryd.prog 8 #[stV s x] W fun e w' => e = .returned (.bool true) ∧ Below W.heap.size W w' := by
  have HG := Lib.hid hg
  have HA := Lib.hid (AW.box h)
  have hgr : decide (¬ Few s) = true := decide_eq_true hf
  clear hg h hf
  go_enter Tryd.func8, Tryd.ntmps8
  go_upto_region 1 with fail
  show Code.wp _ _ _ _ (W.alloc (.cells (cellsS s x) 24))
  generalize (W.alloc (.cells (cellsS s x) 24)) = w1 at HA ⊢
  generalize W.heap.size = g at HA ⊢
  go_wp2_with fail
  refine (awake11 (HG.out.below HA.out.bel)).mono ?_
  rintro e w2 ⟨rfl, b2⟩
  have HS := Lib.hid (HA.out.call b2)
  clear HA b2
  obtain ⟨q0, q1, q2, q3, q4, q5, q6, q7⟩ := cells8 HS.out.blk
  go_wp2_with fail
  refine (great_n HS.out.ms).mono ?_
  rintro e w3 ⟨rfl, b3⟩
  rw [hgr]
  have HS3 := Lib.hid (HS.out.call b3)
  clear HS b3 q0 q1 q2 q3 q4 q5 q6 q7 hgr
  go_wp2_with fail
  refine (awake11 (HG.out.below HS3.out.bel)).mono ?_
  rintro e w4 ⟨rfl, b4⟩
  have HS4 := Lib.hid (HS3.out.call b4)
  clear HS3 b4
  go_wp2_with fail
  go_ret
  exact ⟨rfl, HS4.out.bel⟩
theorem fenceLost_walk {W : World} {s : St} {x : Sx} (hg : GT W) (h : MS W s x) : Calls Tryd.prog 8 #[stV s x] W fun e w' => e = .returned (.bool true) ∧ Below W.heap.size W w' := by
  by_cases hf : Few s
  · exact fenceLost_few hg h hf
  · exact fenceLost_many hg h hf
end Go.Proofs.YtbgojgoejlhgeaaDoor.Pr
