-- PRINTED by print.py (a twelfth state) out of the translation. Not trusted: Lean checks it.
import Derived.Test.YtbgojgoejlhgeaaDoorAw
namespace Go.Proofs.YtbgojgoejlhgeaaDoor.Pr
open Go.RowKit Go.Proofs.YtbgojgoejlhgeaaDoorW.PrintWords Go.Proofs.YtbgojgoejlhgeaaDoorW.PrintLast Go.Proofs.YtbgojgoejlhgeaaDoorW.PrintMore
attribute [local go_sem] max2_int min2_int max_two min_two max_three min_three max_four min_four   -- for this text's walks alone
set_option linter.unusedVariables false
set_option linter.unusedSimpArgs false

/-! ### mandolinelaw37_FenceTurns: function 6 -/
mutual
def mandolinelaw37_FenceTurns.j0 : Nat → Bool → Bool → List (S42) → List (S42) → List (S42) → Bool → Bool → Int → Bool → Option (Bool)
 | 0, _, _, _, _, _, _, _, _, _ => none
 | k + 1, x11, x102000, x102001, x102002, x102003, x102004, x102005, x102006, x102007 => if x11 = true then ((awake37.f).bind fun t104 => (some t104)) else ((mandolinelaw37_own.f x102000 x102001 x102002 x102003 x102004 x102005 x102006 x102007).bind fun bt105 => ((fence_Decide.f k bt105.1 bt105.2.1 bt105.2.2.1 bt105.2.2.2.1 bt105.2.2.2.2.1 bt105.2.2.2.2.2.1 bt105.2.2.2.2.2.2.1 bt105.2.2.2.2.2.2.2).bind fun t119 => ((mandolinelaw37_own.f x102000 x102001 x102002 x102003 true x102005 x102006 x102007).bind fun bt120 => ((fence_Decide.f k bt120.1 bt120.2.1 bt120.2.2.1 bt120.2.2.2.1 bt120.2.2.2.2.1 bt120.2.2.2.2.2.1 bt120.2.2.2.2.2.2.1 bt120.2.2.2.2.2.2.2).bind fun t134 => ((mandolinelaw37_own.f x102000 x102001 x102002 x102003 true true x102006 x102007).bind fun bt135 => ((fence_Decide.f k bt135.1 bt135.2.1 bt135.2.2.1 bt135.2.2.2.1 bt135.2.2.2.2.1 bt135.2.2.2.2.2.1 bt135.2.2.2.2.2.2.1 bt135.2.2.2.2.2.2.2).bind fun t149 => (if x102000 = true then (if t119 = 4 then (mandolinelaw37_FenceTurns.j1 k t119 t134 t149 true) else (if t134 = 4 then (mandolinelaw37_FenceTurns.j1 k t119 t134 t149 true) else (mandolinelaw37_FenceTurns.j1 k t119 t134 t149 (t149 == 4)))) else (mandolinelaw37_FenceTurns.j1 k t119 t134 t149 false))))))))
def mandolinelaw37_FenceTurns.j1 : Nat → Int → Int → Int → Bool → Option (Bool)
 | 0, _, _, _, _ => none
 | k + 1, x3, x4, x5, x37 => if x37 = true then (some false) else (if x3 = 5 then (if x4 = x3 then (if x3 = 3 then (if x4 = 5 then (if x5 = x4 then (some (x4 != 3)) else (some false)) else (if x4 = 4 then (if x5 = x4 then (some (x4 != 3)) else (some false)) else (some false))) else (if x5 = x4 then (some (x4 != 3)) else (some false))) else (some false)) else (if x3 = 6 then (if x4 = x3 then (if x3 = 3 then (if x4 = 5 then (if x5 = x4 then (some (x4 != 3)) else (some false)) else (if x4 = 4 then (if x5 = x4 then (some (x4 != 3)) else (some false)) else (some false))) else (if x5 = x4 then (some (x4 != 3)) else (some false))) else (some false)) else (if x3 = 4 then (if x4 = x3 then (if x3 = 3 then (if x4 = 5 then (if x5 = x4 then (some (x4 != 3)) else (some false)) else (if x4 = 4 then (if x5 = x4 then (some (x4 != 3)) else (some false)) else (some false))) else (if x5 = x4 then (some (x4 != 3)) else (some false))) else (some false)) else (if x3 = 3 then (if x4 = 5 then (if x5 = x4 then (some (x4 != 3)) else (some false)) else (if x4 = 4 then (if x5 = x4 then (some (x4 != 3)) else (some false)) else (some false))) else (if x5 = x4 then (some (x4 != 3)) else (some false))))))
end
def mandolinelaw37_FenceTurns.f (k : Nat) (a0_0 : Bool) (l0_1 : List (S42)) (l0_2 : List (S42)) (l0_3 : List (S42)) (a0_4 : Bool) (a0_5 : Bool) (a0_6 : Int) (a0_7 : Bool) : Option (Bool) := (awake37.f).bind fun t102 => (if t102 = true then ((mandolineref37_Great.f a0_0 l0_1 l0_2 l0_3 a0_4 a0_5 a0_6 a0_7).bind fun t103 => (mandolinelaw37_FenceTurns.j0 k t103 a0_0 l0_1 l0_2 l0_3 a0_4 a0_5 a0_6 a0_7)) else (mandolinelaw37_FenceTurns.j0 k true a0_0 l0_1 l0_2 l0_3 a0_4 a0_5 a0_6 a0_7))
theorem mandolinelaw37_FenceTurns.mono_l : ∀ k, (∀ y0 y1 y2 y3 y4 y5 y6 y7 y8, LeO (mandolinelaw37_FenceTurns.j0 k y0 y1 y2 y3 y4 y5 y6 y7 y8) (mandolinelaw37_FenceTurns.j0 (k + 1) y0 y1 y2 y3 y4 y5 y6 y7 y8)) ∧ (∀ y0 y1 y2 y3, LeO (mandolinelaw37_FenceTurns.j1 k y0 y1 y2 y3) (mandolinelaw37_FenceTurns.j1 (k + 1) y0 y1 y2 y3))
 | 0 => ⟨fun _ _ _ _ _ _ _ _ _ r h => by simp [mandolinelaw37_FenceTurns.j0] at h, fun _ _ _ _ r h => by simp [mandolinelaw37_FenceTurns.j1] at h⟩
 | k + 1 => by
  obtain ⟨ih0, ih1⟩ := mandolinelaw37_FenceTurns.mono_l k
  refine ⟨?_, ?_⟩
  ·intro y0 y1 y2 y3 y4 y5 y6 y7 y8
   unfold mandolinelaw37_FenceTurns.j0
   repeat' first
   | (with_reducible exact ih0 _ _ _ _ _ _ _ _ _)
   | (with_reducible exact ih1 _ _ _ _)
   | (with_reducible exact fence_Decide.mono _ _ _ _ _ _ _ _ _)
   | (with_reducible exact LeO.refl _)
   | (with_reducible exact LeO.none _)
   | (with_reducible refine LeO.ite ?_ ?_)
   | (with_reducible refine LeO.bind ?_ (fun _ => ?_))
   | exact ih0 _ _ _ _ _ _ _ _ _
   | exact ih1 _ _ _ _
   | exact fence_Decide.mono _ _ _ _ _ _ _ _ _
   | exact LeO.none _
   | refine LeO.ite ?_ ?_
   | refine LeO.bind ?_ (fun _ => ?_)
  ·intro y0 y1 y2 y3
   unfold mandolinelaw37_FenceTurns.j1
   repeat' first
   | (with_reducible exact ih0 _ _ _ _ _ _ _ _ _)
   | (with_reducible exact ih1 _ _ _ _)
   | (with_reducible exact fence_Decide.mono _ _ _ _ _ _ _ _ _)
   | (with_reducible exact LeO.refl _)
   | (with_reducible exact LeO.none _)
   | (with_reducible refine LeO.ite ?_ ?_)
   | (with_reducible refine LeO.bind ?_ (fun _ => ?_))
   | exact ih0 _ _ _ _ _ _ _ _ _
   | exact ih1 _ _ _ _
   | exact fence_Decide.mono _ _ _ _ _ _ _ _ _
   | exact LeO.none _
   | refine LeO.ite ?_ ?_
   | refine LeO.bind ?_ (fun _ => ?_)
theorem mandolinelaw37_FenceTurns.mono : ∀ a0 a1 a2 a3 a4 a5 a6 a7 k, LeO (mandolinelaw37_FenceTurns.f k a0 a1 a2 a3 a4 a5 a6 a7) (mandolinelaw37_FenceTurns.f (k + 1) a0 a1 a2 a3 a4 a5 a6 a7) := by
 intro a0 a1 a2 a3 a4 a5 a6 a7 k
 obtain ⟨ih0, ih1⟩ := mandolinelaw37_FenceTurns.mono_l k
 unfold mandolinelaw37_FenceTurns.f
 repeat' first
   | (with_reducible exact ih0 _ _ _ _ _ _ _ _ _)
   | (with_reducible exact ih1 _ _ _ _)
   | (with_reducible exact fence_Decide.mono _ _ _ _ _ _ _ _ _)
   | (with_reducible exact LeO.refl _)
   | (with_reducible exact LeO.none _)
   | (with_reducible refine LeO.ite ?_ ?_)
   | (with_reducible refine LeO.bind ?_ (fun _ => ?_))
   | exact ih0 _ _ _ _ _ _ _ _ _
   | exact ih1 _ _ _ _
   | exact fence_Decide.mono _ _ _ _ _ _ _ _ _
   | exact LeO.none _
   | refine LeO.ite ?_ ?_
   | refine LeO.bind ?_ (fun _ => ?_)
set_option maxHeartbeats 8000000 in
set_option maxRecDepth 100000 in
theorem mandolinelaw37_FenceTurns.calls (k : Nat) (a0_0 : Bool) (A0_1 : Option Addr) (c0_1 : Nat) (l0_1 : List (S42)) (A0_2 : Option Addr) (c0_2 : Nat) (l0_2 : List (S42)) (A0_3 : Option Addr) (c0_3 : Nat) (l0_3 : List (S42)) (a0_4 : Bool) (a0_5 : Bool) (a0_6 : Int) (a0_7 : Bool) (r : Bool) (w : World) (hgt : GT w) (hr0_1 : Kd.C k42 w A0_1 l0_1.length l0_1) (hc0_1 : l0_1.length ≤ c0_1) (hr0_2 : Kd.C k42 w A0_2 l0_2.length l0_2) (hc0_2 : l0_2.length ≤ c0_2) (hr0_3 : Kd.C k42 w A0_3 l0_3.length l0_3) (hc0_3 : l0_3.length ≤ c0_3) (h : mandolinelaw37_FenceTurns.f k a0_0 l0_1 l0_2 l0_3 a0_4 a0_5 a0_6 a0_7 = some r) :
  Calls Tryd.prog 6 #[.agg #[.bool a0_0, .slice A0_1 l0_1.length c0_1, .slice A0_2 l0_2.length c0_2, .slice A0_3 l0_3.length c0_3, .bool a0_4, .bool a0_5, .int .i64 a0_6, .bool a0_7]] w fun e w' => e = .returned (.bool r) ∧ Below w.heap.size w w' := by
 have HGT := Aside0.mk hgt
 clear hgt
 have hu24 := Tryd.underlying24
 have HR0_1 := Aside0.mk hr0_1
 have HC0_1 := Aside0.mk hc0_1
 clear hr0_1 hc0_1
 have HR0_2 := Aside0.mk hr0_2
 have HC0_2 := Aside0.mk hc0_2
 clear hr0_2 hc0_2
 have HR0_3 := Aside0.mk hr0_3
 have HC0_3 := Aside0.mk hc0_3
 clear hr0_3 hc0_3
 have HB := Aside0.mk (Below.refl w.heap.size w)
 have H : ((awake37.f).bind fun t102 => (if t102 = true then ((mandolineref37_Great.f a0_0 l0_1 l0_2 l0_3 a0_4 a0_5 a0_6 a0_7).bind fun t103 => (mandolinelaw37_FenceTurns.j0 k t103 a0_0 l0_1 l0_2 l0_3 a0_4 a0_5 a0_6 a0_7)) else (mandolinelaw37_FenceTurns.j0 k true a0_0 l0_1 l0_2 l0_3 a0_4 a0_5 a0_6 a0_7))) = some r := h
 clear h
 have HC2 := Aside0.mk H
 clear H
 go_enter Tryd.func6, Tryd.ntmps6
 go_upto_region 1 with (first | ((with_reducible refine gate_dst (N := 1) rfl ?_); refine box_event ?hg (N := 1) ?hd (cs := #[.bool a0_0, .slice A0_1 l0_1.length c0_1, .slice A0_2 l0_2.length c0_2, .slice A0_3 l0_3.length c0_3, .bool a0_4, .bool a0_5, .int .i64 a0_6, .bool a0_7]) (t := 24) ?hr ?_; (case hd => rfl); (case hg => rfl); (case hr => first | (go_simp; done) | (go_simp; rfl)); intro gb101 hg w3 hbox hb; have n0_ := Aside0.mk (below_step (by repeat (first | (with_reducible first | exact HB.out | apply below_alloc | apply pw_below_drewN | apply below_drew1) | exact HB.out)) hb); have n1_ := Aside0.mk (hbox); have n2_ := Aside0.mk ((by rw [hg]; exact (below_size (by repeat (first | (with_reducible first | exact HB.out | apply below_alloc | apply pw_below_drewN | apply below_drew1) | exact HB.out))) : w.heap.size ≤ gb101)); have n3_ := Aside0.mk ((by rw [hg]; exact (below_size (by repeat (first | (with_reducible first | exact HB.out | apply below_alloc | apply pw_below_drewN | apply below_drew1) | exact HB.out))) : w.heap.size ≤ gb101)); clear HB; have HB := n0_; have BK101 := n1_; have GW101 := n2_; have GE101 := n3_; clear n0_ n1_ n2_ n3_; clear hb hbox hg))
 (try simp only [Act.put, List.setIfInBounds_toArray, List.set_cons_zero, List.set_cons_succ])
 go_cut [11] (fun v11 wc => ∃ (kq : Nat) (x11_1 : Bool), v11 = .bool x11_1 ∧ Aside0 (mandolinelaw37_FenceTurns.j0 kq x11_1 a0_0 l0_1 l0_2 l0_3 a0_4 a0_5 a0_6 a0_7 = some r) ∧ Aside0 (kq ≤ k) ∧ Aside0 (wc.heap[gb101]? = some (.cells #[.bool a0_0, (.slice A0_1 l0_1.length c0_1), (.slice A0_2 l0_2.length c0_2), (.slice A0_3 l0_3.length c0_3), .bool a0_4, .bool a0_5, .int .i64 a0_6, .bool a0_7] 24 (0, 0))) ∧ Aside0 (Below w.heap.size w wc))
 case first =>
  have H := HC2.out
  clear HC2
  replace H := Option.bind_eq_some_iff.mp H
  obtain ⟨t102, A40, H⟩ := H
  replace H : (if t102 = true then ((mandolineref37_Great.f a0_0 l0_1 l0_2 l0_3 a0_4 a0_5 a0_6 a0_7).bind fun t103 => (mandolinelaw37_FenceTurns.j0 k t103 a0_0 l0_1 l0_2 l0_3 a0_4 a0_5 a0_6 a0_7)) else (mandolinelaw37_FenceTurns.j0 k true a0_0 l0_1 l0_2 l0_3 a0_4 a0_5 a0_6 a0_7)) = some r := H
  have A4 := Aside0.mk A40
  clear A40
  by_cases c5 : t102 = true
  ·subst c5
   have H1 : ((mandolineref37_Great.f a0_0 l0_1 l0_2 l0_3 a0_4 a0_5 a0_6 a0_7).bind fun t103 => (mandolinelaw37_FenceTurns.j0 k t103 a0_0 l0_1 l0_2 l0_3 a0_4 a0_5 a0_6 a0_7)) = some r := by rw [if_pos rfl] at H; exact H
   clear H
   have H := H1
   clear H1
   replace H := Option.bind_eq_some_iff.mp H
   obtain ⟨t103, A60, H⟩ := H
   replace H : (mandolinelaw37_FenceTurns.j0 k t103 a0_0 l0_1 l0_2 l0_3 a0_4 a0_5 a0_6 a0_7) = some r := H
   have A6 := Aside0.mk A60
   clear A60
   have H' := Aside0.mk H
   clear H
   go_wp2_with (first | ((with_reducible refine gate_callee (f := 11) rfl ?_); refine goesL_ (some 6) rfl rfl Tryd.func11 (by kernel_rfl) rfl #[] rfl (by (try simp only [List.map_toArray, List.map_cons, List.map_nil]); first | done | rfl | (simp only [List.length_drop, List.length_take]; rfl)) ?_; (with_reducible refine (awake37.calls true _ A4.out (HGT.out.below (by repeat (first | (with_reducible first | exact HB.out | apply below_alloc | apply pw_below_drewN | apply below_drew1) | exact HB.out)))).mono ?_); rintro e w7 ⟨rfl, hb⟩; refine ⟨_, rfl, ?_⟩; have n0_ := Aside0.mk (blk_below (g := gb101) (o := .cells #[.bool a0_0, .slice A0_1 l0_1.length c0_1, .slice A0_2 l0_2.length c0_2, .slice A0_3 l0_3.length c0_3, .bool a0_4, .bool a0_5, .int .i64 a0_6, .bool a0_7] 24 (0, 0)) (by (with_reducible repeat (first | refine blk_drewN ?_ _ | refine blk_drew ?_ | refine blk_alloc ?_ _)); exact BK101.out) hb); have n1_ := Aside0.mk (below_step (by repeat (first | (with_reducible first | exact HB.out | apply below_alloc | apply pw_below_drewN | apply below_drew1 | refine below_set ?_ GE101.out) | exact HB.out)) hb); clear BK101; clear HB; have BK101 := n0_; have HB := n1_; clear n0_ n1_; (try clear hb); (try clear hb2); (try clear hk); (try clear hi); have hcz8_0 : w7.cell? ⟨gb101, 0, none⟩ = some (.bool a0_0) := (blk_cell BK101.out 0).trans rfl; have hcz8_1 : w7.cell? ⟨gb101, 1, none⟩ = some (.slice A0_1 l0_1.length c0_1) := (blk_cell BK101.out 1).trans rfl; have hcz8_2 : w7.cell? ⟨gb101, 2, none⟩ = some (.slice A0_2 l0_2.length c0_2) := (blk_cell BK101.out 2).trans rfl; have hcz8_3 : w7.cell? ⟨gb101, 3, none⟩ = some (.slice A0_3 l0_3.length c0_3) := (blk_cell BK101.out 3).trans rfl; have hcz8_4 : w7.cell? ⟨gb101, 4, none⟩ = some (.bool a0_4) := (blk_cell BK101.out 4).trans rfl; have hcz8_5 : w7.cell? ⟨gb101, 5, none⟩ = some (.bool a0_5) := (blk_cell BK101.out 5).trans rfl; have hcz8_6 : w7.cell? ⟨gb101, 6, none⟩ = some (.int .i64 a0_6) := (blk_cell BK101.out 6).trans rfl; have hcz8_7 : w7.cell? ⟨gb101, 7, none⟩ = some (.bool a0_7) := (blk_cell BK101.out 7).trans rfl; have hfz8_0 := blk_frozen BK101.out 0; have hfz8_1 := blk_frozen BK101.out 1; have hfz8_2 := blk_frozen BK101.out 2; have hfz8_3 := blk_frozen BK101.out 3; have hfz8_4 := blk_frozen BK101.out 4; have hfz8_5 := blk_frozen BK101.out 5; have hfz8_6 := blk_frozen BK101.out 6; have hfz8_7 := blk_frozen BK101.out 7) | (go_at_call 12; (with_reducible refine (mandolineref37_Great.calls a0_0 _ _ l0_1 _ _ l0_2 _ _ l0_3 a0_4 a0_5 a0_6 a0_7 t103 _ ?side1 ?side2 ?side3 ?side4 ?side5 ?side6 A6.out).mono ?_); (case side1 => repeat (first | exact (Kd.C_below HR0_1.out HB.out) | (with_reducible refine Kd.C_alloc ?_ _) | (with_reducible refine Kd.C_drewN ?_ _) | (with_reducible refine Kd.C_drew ?_))); (case side2 => exact HC0_1.out); (case side3 => repeat (first | exact (Kd.C_below HR0_2.out HB.out) | (with_reducible refine Kd.C_alloc ?_ _) | (with_reducible refine Kd.C_drewN ?_ _) | (with_reducible refine Kd.C_drew ?_))); (case side4 => exact HC0_2.out); (case side5 => repeat (first | exact (Kd.C_below HR0_3.out HB.out) | (with_reducible refine Kd.C_alloc ?_ _) | (with_reducible refine Kd.C_drewN ?_ _) | (with_reducible refine Kd.C_drew ?_))); (case side6 => exact HC0_3.out); rintro e w9 ⟨rfl, hb⟩; have n0_ := Aside0.mk (blk_below (g := gb101) (o := .cells #[.bool a0_0, .slice A0_1 l0_1.length c0_1, .slice A0_2 l0_2.length c0_2, .slice A0_3 l0_3.length c0_3, .bool a0_4, .bool a0_5, .int .i64 a0_6, .bool a0_7] 24 (0, 0)) (by (with_reducible repeat (first | refine blk_drewN ?_ _ | refine blk_drew ?_ | refine blk_alloc ?_ _)); exact BK101.out) hb); have n1_ := Aside0.mk (below_step (by repeat (first | (with_reducible first | exact HB.out | apply below_alloc | apply pw_below_drewN | apply below_drew1 | refine below_set ?_ GE101.out) | exact HB.out)) hb); clear BK101; clear HB; have BK101 := n0_; have HB := n1_; clear n0_ n1_; (try clear hb); (try clear hb2); (try clear hk); (try clear hi)))
   go_meet
   case rel => exact ⟨_, (t103), (by first | rfl | (simp; done) | (simp [*]; done)), H', ⟨by first | omega | exact Nat.le_refl _⟩, ⟨by (with_reducible repeat (first | refine blk_drewN ?_ _ | refine blk_drew ?_ | refine blk_alloc ?_ _)); exact BK101.out⟩, ⟨by repeat (first | (with_reducible first | exact HB.out | apply below_alloc | apply pw_below_drewN | apply below_drew1 | refine below_set ?_ GE101.out) | exact HB.out)⟩⟩
  ·replace c5 := Bool.eq_false_iff.mpr c5
   subst c5
   have H1 : (mandolinelaw37_FenceTurns.j0 k true a0_0 l0_1 l0_2 l0_3 a0_4 a0_5 a0_6 a0_7) = some r := by rw [if_neg (show ¬ (false = true) by decide)] at H; exact H
   clear H
   have H := H1
   clear H1
   have H' := Aside0.mk H
   clear H
   go_wp2_with (first | ((with_reducible refine gate_callee (f := 11) rfl ?_); refine goesL_ (some 6) rfl rfl Tryd.func11 (by kernel_rfl) rfl #[] rfl (by (try simp only [List.map_toArray, List.map_cons, List.map_nil]); first | done | rfl | (simp only [List.length_drop, List.length_take]; rfl)) ?_; (with_reducible refine (awake37.calls false _ A4.out (HGT.out.below (by repeat (first | (with_reducible first | exact HB.out | apply below_alloc | apply pw_below_drewN | apply below_drew1) | exact HB.out)))).mono ?_); rintro e w10 ⟨rfl, hb⟩; refine ⟨_, rfl, ?_⟩; have n0_ := Aside0.mk (blk_below (g := gb101) (o := .cells #[.bool a0_0, .slice A0_1 l0_1.length c0_1, .slice A0_2 l0_2.length c0_2, .slice A0_3 l0_3.length c0_3, .bool a0_4, .bool a0_5, .int .i64 a0_6, .bool a0_7] 24 (0, 0)) (by (with_reducible repeat (first | refine blk_drewN ?_ _ | refine blk_drew ?_ | refine blk_alloc ?_ _)); exact BK101.out) hb); have n1_ := Aside0.mk (below_step (by repeat (first | (with_reducible first | exact HB.out | apply below_alloc | apply pw_below_drewN | apply below_drew1 | refine below_set ?_ GE101.out) | exact HB.out)) hb); clear BK101; clear HB; have BK101 := n0_; have HB := n1_; clear n0_ n1_; (try clear hb); (try clear hb2); (try clear hk); (try clear hi)))
   go_meet
   case rel => exact ⟨_, (true), (by first | rfl | (simp; done) | (simp [*]; done)), H', ⟨by first | omega | exact Nat.le_refl _⟩, ⟨by (with_reducible repeat (first | refine blk_drewN ?_ _ | refine blk_drew ?_ | refine blk_alloc ?_ _)); exact BK101.out⟩, ⟨by repeat (first | (with_reducible first | exact HB.out | apply below_alloc | apply pw_below_drewN | apply below_drew1 | refine below_set ?_ GE101.out) | exact HB.out)⟩⟩
 case rest =>
  clear HC2
  try clear c1
  try clear p2
  try clear c5
  try clear c6
  try clear hcz8_0
  try clear hcz8_1
  try clear hcz8_2
  try clear hcz8_3
  try clear hcz8_4
  try clear hcz8_5
  try clear hcz8_6
  try clear hcz8_7
  try clear hfz8_0
  try clear hfz8_1
  try clear hfz8_2
  try clear hfz8_3
  try clear hfz8_4
  try clear hfz8_5
  try clear hfz8_6
  try clear hfz8_7
  obtain ⟨kq, x11_1, rfl, HA, HJ1, BK101, HB⟩ := hcut
  cases kq with
  | zero => exact absurd HA.out (by simp [mandolinelaw37_FenceTurns.j0])
  | succ kj1 =>
   have H := HA.out
   clear HA
   simp only [mandolinelaw37_FenceTurns.j0] at H
   by_cases c11 : x11_1 = true
   ·subst c11
    have H1 : ((awake37.f).bind fun t104 => (some t104)) = some r := by rw [if_pos rfl] at H; exact H
    clear H
    have H := H1
    clear H1
    replace H := Option.bind_eq_some_iff.mp H
    obtain ⟨t104, A120, H⟩ := H
    replace H : (some t104) = some r := H
    have A12 := Aside0.mk A120
    clear A120
    obtain rfl := Option.some.inj H
    go_wp2_with (first | ((with_reducible refine gate_callee (f := 11) rfl ?_); refine goesL_ (some 12) rfl rfl Tryd.func11 (by kernel_rfl) rfl #[] rfl (by (try simp only [List.map_toArray, List.map_cons, List.map_nil]); first | done | rfl | (simp only [List.length_drop, List.length_take]; rfl)) ?_; (with_reducible refine (awake37.calls t104 _ A12.out (HGT.out.below (by repeat (first | (with_reducible first | exact HB.out | apply below_alloc | apply pw_below_drewN | apply below_drew1) | exact HB.out)))).mono ?_); rintro e w13 ⟨rfl, hb⟩; refine ⟨_, rfl, ?_⟩; have n0_ := Aside0.mk (blk_below (g := gb101) (o := .cells #[.bool a0_0, .slice A0_1 l0_1.length c0_1, .slice A0_2 l0_2.length c0_2, .slice A0_3 l0_3.length c0_3, .bool a0_4, .bool a0_5, .int .i64 a0_6, .bool a0_7] 24 (0, 0)) (by (with_reducible repeat (first | refine blk_drewN ?_ _ | refine blk_drew ?_ | refine blk_alloc ?_ _)); exact BK101.out) hb); have n1_ := Aside0.mk (below_step (by repeat (first | (with_reducible first | exact HB.out | apply below_alloc | apply pw_below_drewN | apply below_drew1 | refine below_set ?_ GE101.out) | exact HB.out)) hb); clear BK101; clear HB; have BK101 := n0_; have HB := n1_; clear n0_ n1_; (try clear hb); (try clear hb2); (try clear hk); (try clear hi)))
    go_ret
    exact ⟨by first | rfl | (simp [errW_none, errW_some] <;> rfl) | (simp [*, errW_none, errW_some] <;> rfl), by repeat (first | (with_reducible first | exact HB.out | apply below_alloc | apply pw_below_drewN | apply below_drew1 | refine below_set ?_ GE101.out) | exact HB.out)⟩
   ·replace c11 := Bool.eq_false_iff.mpr c11
    subst c11
    have H1 : ((mandolinelaw37_own.f a0_0 l0_1 l0_2 l0_3 a0_4 a0_5 a0_6 a0_7).bind fun bt105 => ((fence_Decide.f kj1 bt105.1 bt105.2.1 bt105.2.2.1 bt105.2.2.2.1 bt105.2.2.2.2.1 bt105.2.2.2.2.2.1 bt105.2.2.2.2.2.2.1 bt105.2.2.2.2.2.2.2).bind fun t119 => ((mandolinelaw37_own.f a0_0 l0_1 l0_2 l0_3 true a0_5 a0_6 a0_7).bind fun bt120 => ((fence_Decide.f kj1 bt120.1 bt120.2.1 bt120.2.2.1 bt120.2.2.2.1 bt120.2.2.2.2.1 bt120.2.2.2.2.2.1 bt120.2.2.2.2.2.2.1 bt120.2.2.2.2.2.2.2).bind fun t134 => ((mandolinelaw37_own.f a0_0 l0_1 l0_2 l0_3 true true a0_6 a0_7).bind fun bt135 => ((fence_Decide.f kj1 bt135.1 bt135.2.1 bt135.2.2.1 bt135.2.2.2.1 bt135.2.2.2.2.1 bt135.2.2.2.2.2.1 bt135.2.2.2.2.2.2.1 bt135.2.2.2.2.2.2.2).bind fun t149 => (if a0_0 = true then (if t119 = 4 then (mandolinelaw37_FenceTurns.j1 kj1 t119 t134 t149 true) else (if t134 = 4 then (mandolinelaw37_FenceTurns.j1 kj1 t119 t134 t149 true) else (mandolinelaw37_FenceTurns.j1 kj1 t119 t134 t149 (t149 == 4)))) else (mandolinelaw37_FenceTurns.j1 kj1 t119 t134 t149 false)))))))) = some r := by rw [if_neg (show ¬ (false = true) by decide)] at H; exact H
    clear H
    have H := H1
    clear H1
    replace H := Option.bind_eq_some_iff.mp H
    obtain ⟨⟨t105, t106, t109, t112, t115, t116, t117, t118⟩, A140, H⟩ := H
    replace H : ((fence_Decide.f kj1 t105 t106 t109 t112 t115 t116 t117 t118).bind fun t119 => ((mandolinelaw37_own.f a0_0 l0_1 l0_2 l0_3 true a0_5 a0_6 a0_7).bind fun bt120 => ((fence_Decide.f kj1 bt120.1 bt120.2.1 bt120.2.2.1 bt120.2.2.2.1 bt120.2.2.2.2.1 bt120.2.2.2.2.2.1 bt120.2.2.2.2.2.2.1 bt120.2.2.2.2.2.2.2).bind fun t134 => ((mandolinelaw37_own.f a0_0 l0_1 l0_2 l0_3 true true a0_6 a0_7).bind fun bt135 => ((fence_Decide.f kj1 bt135.1 bt135.2.1 bt135.2.2.1 bt135.2.2.2.1 bt135.2.2.2.2.1 bt135.2.2.2.2.2.1 bt135.2.2.2.2.2.2.1 bt135.2.2.2.2.2.2.2).bind fun t149 => (if a0_0 = true then (if t119 = 4 then (mandolinelaw37_FenceTurns.j1 kj1 t119 t134 t149 true) else (if t134 = 4 then (mandolinelaw37_FenceTurns.j1 kj1 t119 t134 t149 true) else (mandolinelaw37_FenceTurns.j1 kj1 t119 t134 t149 (t149 == 4)))) else (mandolinelaw37_FenceTurns.j1 kj1 t119 t134 t149 false))))))) = some r := H
    have A14 := Aside0.mk A140
    clear A140
    replace H := Option.bind_eq_some_iff.mp H
    obtain ⟨t119, A150, H⟩ := H
    replace H : ((mandolinelaw37_own.f a0_0 l0_1 l0_2 l0_3 true a0_5 a0_6 a0_7).bind fun bt120 => ((fence_Decide.f kj1 bt120.1 bt120.2.1 bt120.2.2.1 bt120.2.2.2.1 bt120.2.2.2.2.1 bt120.2.2.2.2.2.1 bt120.2.2.2.2.2.2.1 bt120.2.2.2.2.2.2.2).bind fun t134 => ((mandolinelaw37_own.f a0_0 l0_1 l0_2 l0_3 true true a0_6 a0_7).bind fun bt135 => ((fence_Decide.f kj1 bt135.1 bt135.2.1 bt135.2.2.1 bt135.2.2.2.1 bt135.2.2.2.2.1 bt135.2.2.2.2.2.1 bt135.2.2.2.2.2.2.1 bt135.2.2.2.2.2.2.2).bind fun t149 => (if a0_0 = true then (if t119 = 4 then (mandolinelaw37_FenceTurns.j1 kj1 t119 t134 t149 true) else (if t134 = 4 then (mandolinelaw37_FenceTurns.j1 kj1 t119 t134 t149 true) else (mandolinelaw37_FenceTurns.j1 kj1 t119 t134 t149 (t149 == 4)))) else (mandolinelaw37_FenceTurns.j1 kj1 t119 t134 t149 false)))))) = some r := H
    have A15 := Aside0.mk A150
    clear A150
    replace H := Option.bind_eq_some_iff.mp H
    obtain ⟨⟨t120, t121, t124, t127, t130, t131, t132, t133⟩, A160, H⟩ := H
    replace H : ((fence_Decide.f kj1 t120 t121 t124 t127 t130 t131 t132 t133).bind fun t134 => ((mandolinelaw37_own.f a0_0 l0_1 l0_2 l0_3 true true a0_6 a0_7).bind fun bt135 => ((fence_Decide.f kj1 bt135.1 bt135.2.1 bt135.2.2.1 bt135.2.2.2.1 bt135.2.2.2.2.1 bt135.2.2.2.2.2.1 bt135.2.2.2.2.2.2.1 bt135.2.2.2.2.2.2.2).bind fun t149 => (if a0_0 = true then (if t119 = 4 then (mandolinelaw37_FenceTurns.j1 kj1 t119 t134 t149 true) else (if t134 = 4 then (mandolinelaw37_FenceTurns.j1 kj1 t119 t134 t149 true) else (mandolinelaw37_FenceTurns.j1 kj1 t119 t134 t149 (t149 == 4)))) else (mandolinelaw37_FenceTurns.j1 kj1 t119 t134 t149 false))))) = some r := H
    have A16 := Aside0.mk A160
    clear A160
    replace H := Option.bind_eq_some_iff.mp H
    obtain ⟨t134, A170, H⟩ := H
    replace H : ((mandolinelaw37_own.f a0_0 l0_1 l0_2 l0_3 true true a0_6 a0_7).bind fun bt135 => ((fence_Decide.f kj1 bt135.1 bt135.2.1 bt135.2.2.1 bt135.2.2.2.1 bt135.2.2.2.2.1 bt135.2.2.2.2.2.1 bt135.2.2.2.2.2.2.1 bt135.2.2.2.2.2.2.2).bind fun t149 => (if a0_0 = true then (if t119 = 4 then (mandolinelaw37_FenceTurns.j1 kj1 t119 t134 t149 true) else (if t134 = 4 then (mandolinelaw37_FenceTurns.j1 kj1 t119 t134 t149 true) else (mandolinelaw37_FenceTurns.j1 kj1 t119 t134 t149 (t149 == 4)))) else (mandolinelaw37_FenceTurns.j1 kj1 t119 t134 t149 false)))) = some r := H
    have A17 := Aside0.mk A170
    clear A170
    replace H := Option.bind_eq_some_iff.mp H
    obtain ⟨⟨t135, t136, t139, t142, t145, t146, t147, t148⟩, A180, H⟩ := H
    replace H : ((fence_Decide.f kj1 t135 t136 t139 t142 t145 t146 t147 t148).bind fun t149 => (if a0_0 = true then (if t119 = 4 then (mandolinelaw37_FenceTurns.j1 kj1 t119 t134 t149 true) else (if t134 = 4 then (mandolinelaw37_FenceTurns.j1 kj1 t119 t134 t149 true) else (mandolinelaw37_FenceTurns.j1 kj1 t119 t134 t149 (t149 == 4)))) else (mandolinelaw37_FenceTurns.j1 kj1 t119 t134 t149 false))) = some r := H
    have A18 := Aside0.mk A180
    clear A180
    replace H := Option.bind_eq_some_iff.mp H
    obtain ⟨t149, A190, H⟩ := H
    replace H : (if a0_0 = true then (if t119 = 4 then (mandolinelaw37_FenceTurns.j1 kj1 t119 t134 t149 true) else (if t134 = 4 then (mandolinelaw37_FenceTurns.j1 kj1 t119 t134 t149 true) else (mandolinelaw37_FenceTurns.j1 kj1 t119 t134 t149 (t149 == 4)))) else (mandolinelaw37_FenceTurns.j1 kj1 t119 t134 t149 false)) = some r := H
    have A19 := Aside0.mk A190
    clear A190
    have HC20 := Aside0.mk H
    clear H
    have hcz21_0 : wc.cell? ⟨gb101, 0, none⟩ = some (.bool a0_0) := (blk_cell BK101.out 0).trans rfl
    have hcz21_1 : wc.cell? ⟨gb101, 1, none⟩ = some (.slice A0_1 l0_1.length c0_1) := (blk_cell BK101.out 1).trans rfl
    have hcz21_2 : wc.cell? ⟨gb101, 2, none⟩ = some (.slice A0_2 l0_2.length c0_2) := (blk_cell BK101.out 2).trans rfl
    have hcz21_3 : wc.cell? ⟨gb101, 3, none⟩ = some (.slice A0_3 l0_3.length c0_3) := (blk_cell BK101.out 3).trans rfl
    have hcz21_4 : wc.cell? ⟨gb101, 4, none⟩ = some (.bool a0_4) := (blk_cell BK101.out 4).trans rfl
    have hcz21_5 : wc.cell? ⟨gb101, 5, none⟩ = some (.bool a0_5) := (blk_cell BK101.out 5).trans rfl
    have hcz21_6 : wc.cell? ⟨gb101, 6, none⟩ = some (.int .i64 a0_6) := (blk_cell BK101.out 6).trans rfl
    have hcz21_7 : wc.cell? ⟨gb101, 7, none⟩ = some (.bool a0_7) := (blk_cell BK101.out 7).trans rfl
    have hfz21_0 := blk_frozen BK101.out 0
    have hfz21_1 := blk_frozen BK101.out 1
    have hfz21_2 := blk_frozen BK101.out 2
    have hfz21_3 := blk_frozen BK101.out 3
    have hfz21_4 := blk_frozen BK101.out 4
    have hfz21_5 := blk_frozen BK101.out 5
    have hfz21_6 := blk_frozen BK101.out 6
    have hfz21_7 := blk_frozen BK101.out 7
    go_upto_region 8 with (first | ((with_reducible refine gate_callee (f := 14) rfl ?_); refine goesL_ (some 14) rfl rfl Tryd.func14 (by kernel_rfl) rfl #[.agg #[.bool a0_0, .slice A0_1 l0_1.length c0_1, .slice A0_2 l0_2.length c0_2, .slice A0_3 l0_3.length c0_3, .bool a0_4, .bool a0_5, .int .i64 a0_6, .bool a0_7]] rfl (by (try simp only [List.map_toArray, List.map_cons, List.map_nil]); first | done | rfl | (simp only [List.length_drop, List.length_take]; rfl)) ?_; (with_reducible refine (mandolinelaw37_own.calls a0_0 _ _ l0_1 _ _ l0_2 _ _ l0_3 a0_4 a0_5 a0_6 a0_7 t105 t106 t109 t112 t115 t116 t117 t118 _ ?side1 ?side2 ?side3 ?side4 ?side5 ?side6 A14.out).mono ?_); (case side1 => repeat (first | exact (Kd.C_below HR0_1.out HB.out) | (with_reducible refine Kd.C_alloc ?_ _) | (with_reducible refine Kd.C_drewN ?_ _) | (with_reducible refine Kd.C_drew ?_))); (case side2 => exact HC0_1.out); (case side3 => repeat (first | exact (Kd.C_below HR0_2.out HB.out) | (with_reducible refine Kd.C_alloc ?_ _) | (with_reducible refine Kd.C_drewN ?_ _) | (with_reducible refine Kd.C_drew ?_))); (case side4 => exact HC0_2.out); (case side5 => repeat (first | exact (Kd.C_below HR0_3.out HB.out) | (with_reducible refine Kd.C_alloc ?_ _) | (with_reducible refine Kd.C_drewN ?_ _) | (with_reducible refine Kd.C_drew ?_))); (case side6 => exact HC0_3.out); rintro e w22 ⟨v107, v110, v113, rfl, ho0, ho1, ho2, hb⟩; refine ⟨_, rfl, ?_⟩; have n0_ := Aside0.mk (Kd.R_lower ho0 (below_size (by repeat (first | (with_reducible first | exact HB.out | apply below_alloc | apply pw_below_drewN | apply below_drew1 | refine below_set ?_ GE101.out) | exact HB.out)))); have n1_ := Aside0.mk (Kd.R_lower ho1 (below_size (by repeat (first | (with_reducible first | exact HB.out | apply below_alloc | apply pw_below_drewN | apply below_drew1 | refine below_set ?_ GE101.out) | exact HB.out)))); have n2_ := Aside0.mk (Kd.R_lower ho2 (below_size (by repeat (first | (with_reducible first | exact HB.out | apply below_alloc | apply pw_below_drewN | apply below_drew1 | refine below_set ?_ GE101.out) | exact HB.out)))); have n3_ := Aside0.mk (blk_below (g := gb101) (o := .cells #[.bool a0_0, .slice A0_1 l0_1.length c0_1, .slice A0_2 l0_2.length c0_2, .slice A0_3 l0_3.length c0_3, .bool a0_4, .bool a0_5, .int .i64 a0_6, .bool a0_7] 24 (0, 0)) (by (with_reducible repeat (first | refine blk_drewN ?_ _ | refine blk_drew ?_ | refine blk_alloc ?_ _)); exact BK101.out) hb); have n4_ := Aside0.mk (below_step (by repeat (first | (with_reducible first | exact HB.out | apply below_alloc | apply pw_below_drewN | apply below_drew1 | refine below_set ?_ GE101.out) | exact HB.out)) hb); clear BK101; clear HB; have HO108 := n0_; have HO111 := n1_; have HO114 := n2_; have BK101 := n3_; have HB := n4_; clear n0_ n1_ n2_ n3_ n4_; (try clear hb); (try clear hb2); (try clear hk); (try clear hi); (try clear ho0); (try clear ho1); (try clear ho2); obtain ⟨Ao23, co23, eo23⟩ := Kd.R_slice HO108.out; subst eo23; obtain ⟨Ao24, co24, eo24⟩ := Kd.R_slice HO111.out; subst eo24; obtain ⟨Ao25, co25, eo25⟩ := Kd.R_slice HO114.out; subst eo25) | ((with_reducible refine gate_callee (f := 13) rfl ?_); refine goesL_ (some 15) rfl rfl Tryd.func13 (by kernel_rfl) rfl #[.agg #[.bool t105, .slice Ao23 t106.length co23, .slice Ao24 t109.length co24, .slice Ao25 t112.length co25, .bool t115, .bool t116, .int .i64 t117, .bool t118]] rfl (by (try simp only [List.map_toArray, List.map_cons, List.map_nil]); first | done | rfl | (simp only [List.length_drop, List.length_take]; rfl)) ?_; (with_reducible refine (fence_Decide.calls kj1 t105 _ _ t106 _ _ t109 _ _ t112 t115 t116 t117 t118 t119 _ ?side1 ?side2 ?side3 ?side4 ?side5 ?side6 A15.out).mono ?_); (case side1 => repeat (first | exact (Kd.R_reads' HO108.out).2.2 | (with_reducible refine Kd.C_alloc ?_ _) | (with_reducible refine Kd.C_drewN ?_ _) | (with_reducible refine Kd.C_drew ?_))); (case side2 => exact (Kd.R_reads' HO108.out).2.1); (case side3 => repeat (first | exact (Kd.R_reads' HO111.out).2.2 | (with_reducible refine Kd.C_alloc ?_ _) | (with_reducible refine Kd.C_drewN ?_ _) | (with_reducible refine Kd.C_drew ?_))); (case side4 => exact (Kd.R_reads' HO111.out).2.1); (case side5 => repeat (first | exact (Kd.R_reads' HO114.out).2.2 | (with_reducible refine Kd.C_alloc ?_ _) | (with_reducible refine Kd.C_drewN ?_ _) | (with_reducible refine Kd.C_drew ?_))); (case side6 => exact (Kd.R_reads' HO114.out).2.1); rintro e w26 ⟨rfl, hb⟩; refine ⟨_, rfl, ?_⟩; have n0_ := Aside0.mk (Kd.R_below (by (with_reducible repeat (first | apply Kd.R_alloc | apply Kd.R_drewN | apply Kd.R_drew)); exact HO108.out) hb); have n1_ := Aside0.mk (Kd.R_below (by (with_reducible repeat (first | apply Kd.R_alloc | apply Kd.R_drewN | apply Kd.R_drew)); exact HO111.out) hb); have n2_ := Aside0.mk (Kd.R_below (by (with_reducible repeat (first | apply Kd.R_alloc | apply Kd.R_drewN | apply Kd.R_drew)); exact HO114.out) hb); have n3_ := Aside0.mk (blk_below (g := gb101) (o := .cells #[.bool a0_0, .slice A0_1 l0_1.length c0_1, .slice A0_2 l0_2.length c0_2, .slice A0_3 l0_3.length c0_3, .bool a0_4, .bool a0_5, .int .i64 a0_6, .bool a0_7] 24 (0, 0)) (by (with_reducible repeat (first | refine blk_drewN ?_ _ | refine blk_drew ?_ | refine blk_alloc ?_ _)); exact BK101.out) hb); have n4_ := Aside0.mk (below_step (by repeat (first | (with_reducible first | exact HB.out | apply below_alloc | apply pw_below_drewN | apply below_drew1 | refine below_set ?_ GE101.out) | exact HB.out)) hb); clear HO108; clear HO111; clear HO114; clear BK101; clear HB; have HO108 := n0_; have HO111 := n1_; have HO114 := n2_; have BK101 := n3_; have HB := n4_; clear n0_ n1_ n2_ n3_ n4_; (try clear hb); (try clear hb2); (try clear hk); (try clear hi); have hcz27_0 : w26.cell? ⟨gb101, 0, none⟩ = some (.bool a0_0) := (blk_cell BK101.out 0).trans rfl; have hcz27_1 : w26.cell? ⟨gb101, 1, none⟩ = some (.slice A0_1 l0_1.length c0_1) := (blk_cell BK101.out 1).trans rfl; have hcz27_2 : w26.cell? ⟨gb101, 2, none⟩ = some (.slice A0_2 l0_2.length c0_2) := (blk_cell BK101.out 2).trans rfl; have hcz27_3 : w26.cell? ⟨gb101, 3, none⟩ = some (.slice A0_3 l0_3.length c0_3) := (blk_cell BK101.out 3).trans rfl; have hcz27_4 : w26.cell? ⟨gb101, 4, none⟩ = some (.bool a0_4) := (blk_cell BK101.out 4).trans rfl; have hcz27_5 : w26.cell? ⟨gb101, 5, none⟩ = some (.bool a0_5) := (blk_cell BK101.out 5).trans rfl; have hcz27_6 : w26.cell? ⟨gb101, 6, none⟩ = some (.int .i64 a0_6) := (blk_cell BK101.out 6).trans rfl; have hcz27_7 : w26.cell? ⟨gb101, 7, none⟩ = some (.bool a0_7) := (blk_cell BK101.out 7).trans rfl; have hfz27_0 := blk_frozen BK101.out 0; have hfz27_1 := blk_frozen BK101.out 1; have hfz27_2 := blk_frozen BK101.out 2; have hfz27_3 := blk_frozen BK101.out 3; have hfz27_4 := blk_frozen BK101.out 4; have hfz27_5 := blk_frozen BK101.out 5; have hfz27_6 := blk_frozen BK101.out 6; have hfz27_7 := blk_frozen BK101.out 7) | ((with_reducible refine gate_callee (f := 14) rfl ?_); refine goesL_ (some 18) rfl rfl Tryd.func14 (by kernel_rfl) rfl #[.agg #[.bool a0_0, .slice A0_1 l0_1.length c0_1, .slice A0_2 l0_2.length c0_2, .slice A0_3 l0_3.length c0_3, .bool true, .bool a0_5, .int .i64 a0_6, .bool a0_7]] rfl (by (try simp only [List.map_toArray, List.map_cons, List.map_nil]); first | done | rfl | (simp only [List.length_drop, List.length_take]; rfl)) ?_; (with_reducible refine (mandolinelaw37_own.calls a0_0 _ _ l0_1 _ _ l0_2 _ _ l0_3 true a0_5 a0_6 a0_7 t120 t121 t124 t127 t130 t131 t132 t133 _ ?side1 ?side2 ?side3 ?side4 ?side5 ?side6 A16.out).mono ?_); (case side1 => exact Kd.C_below HR0_1.out (by repeat (first | (with_reducible first | exact HB.out | apply below_alloc | apply pw_below_drewN | apply below_drew1 | refine below_set ?_ GE101.out) | exact HB.out))); (case side2 => exact HC0_1.out); (case side3 => exact Kd.C_below HR0_2.out (by repeat (first | (with_reducible first | exact HB.out | apply below_alloc | apply pw_below_drewN | apply below_drew1 | refine below_set ?_ GE101.out) | exact HB.out))); (case side4 => exact HC0_2.out); (case side5 => exact Kd.C_below HR0_3.out (by repeat (first | (with_reducible first | exact HB.out | apply below_alloc | apply pw_below_drewN | apply below_drew1 | refine below_set ?_ GE101.out) | exact HB.out))); (case side6 => exact HC0_3.out); rintro e w28 ⟨v122, v125, v128, rfl, ho0, ho1, ho2, hb⟩; refine ⟨_, rfl, ?_⟩; have n0_ := Aside0.mk (Kd.R_mono (Kd.R_told (Kd.R_told (Kd.R_told (Kd.R_old (by (with_reducible repeat (first | apply Kd.R_alloc | apply Kd.R_drewN | apply Kd.R_drew)); exact (Kd.R_mono (Kd.R_far (p := ⟨gb101, 4, none⟩) (Kd.R_types HO108.out BK101.out (by decide)) (fun _ hk => hk.2) (.bool true)) (fun _ h_ => h_.1))) hb) (Kd.R_base ho0)) (Kd.R_base ho1)) (Kd.R_base ho2)) (fun _ h_ => h_.1)); have n1_ := Aside0.mk (Kd.R_mono (Kd.R_told (Kd.R_told (Kd.R_told (Kd.R_old (by (with_reducible repeat (first | apply Kd.R_alloc | apply Kd.R_drewN | apply Kd.R_drew)); exact (Kd.R_mono (Kd.R_far (p := ⟨gb101, 4, none⟩) (Kd.R_types HO111.out BK101.out (by decide)) (fun _ hk => hk.2) (.bool true)) (fun _ h_ => h_.1))) hb) (Kd.R_base ho0)) (Kd.R_base ho1)) (Kd.R_base ho2)) (fun _ h_ => h_.1)); have n2_ := Aside0.mk (Kd.R_mono (Kd.R_told (Kd.R_told (Kd.R_told (Kd.R_old (by (with_reducible repeat (first | apply Kd.R_alloc | apply Kd.R_drewN | apply Kd.R_drew)); exact (Kd.R_mono (Kd.R_far (p := ⟨gb101, 4, none⟩) (Kd.R_types HO114.out BK101.out (by decide)) (fun _ hk => hk.2) (.bool true)) (fun _ h_ => h_.1))) hb) (Kd.R_base ho0)) (Kd.R_base ho1)) (Kd.R_base ho2)) (fun _ h_ => h_.1)); have n3_ := Aside0.mk (Kd.R_lower (Kd.R_new' (Kd.R_new' (Kd.R_new' ho0 (Kd.R_lt (by (with_reducible repeat (first | apply Kd.R_alloc | apply Kd.R_drewN | apply Kd.R_drew)); exact (Kd.R_mono (Kd.R_far (p := ⟨gb101, 4, none⟩) (Kd.R_types HO108.out BK101.out (by decide)) (fun _ hk => hk.2) (.bool true)) (fun _ h_ => h_.1))))) (Kd.R_lt (by (with_reducible repeat (first | apply Kd.R_alloc | apply Kd.R_drewN | apply Kd.R_drew)); exact (Kd.R_mono (Kd.R_far (p := ⟨gb101, 4, none⟩) (Kd.R_types HO111.out BK101.out (by decide)) (fun _ hk => hk.2) (.bool true)) (fun _ h_ => h_.1))))) (Kd.R_lt (by (with_reducible repeat (first | apply Kd.R_alloc | apply Kd.R_drewN | apply Kd.R_drew)); exact (Kd.R_mono (Kd.R_far (p := ⟨gb101, 4, none⟩) (Kd.R_types HO114.out BK101.out (by decide)) (fun _ hk => hk.2) (.bool true)) (fun _ h_ => h_.1))))) (below_size (by repeat (first | (with_reducible first | exact HB.out | apply below_alloc | apply pw_below_drewN | apply below_drew1 | refine below_set ?_ GE101.out) | exact HB.out)))); have n4_ := Aside0.mk (Kd.R_lower (Kd.R_new' (Kd.R_new' (Kd.R_new' ho1 (Kd.R_lt (by (with_reducible repeat (first | apply Kd.R_alloc | apply Kd.R_drewN | apply Kd.R_drew)); exact (Kd.R_mono (Kd.R_far (p := ⟨gb101, 4, none⟩) (Kd.R_types HO108.out BK101.out (by decide)) (fun _ hk => hk.2) (.bool true)) (fun _ h_ => h_.1))))) (Kd.R_lt (by (with_reducible repeat (first | apply Kd.R_alloc | apply Kd.R_drewN | apply Kd.R_drew)); exact (Kd.R_mono (Kd.R_far (p := ⟨gb101, 4, none⟩) (Kd.R_types HO111.out BK101.out (by decide)) (fun _ hk => hk.2) (.bool true)) (fun _ h_ => h_.1))))) (Kd.R_lt (by (with_reducible repeat (first | apply Kd.R_alloc | apply Kd.R_drewN | apply Kd.R_drew)); exact (Kd.R_mono (Kd.R_far (p := ⟨gb101, 4, none⟩) (Kd.R_types HO114.out BK101.out (by decide)) (fun _ hk => hk.2) (.bool true)) (fun _ h_ => h_.1))))) (below_size (by repeat (first | (with_reducible first | exact HB.out | apply below_alloc | apply pw_below_drewN | apply below_drew1 | refine below_set ?_ GE101.out) | exact HB.out)))); have n5_ := Aside0.mk (Kd.R_lower (Kd.R_new' (Kd.R_new' (Kd.R_new' ho2 (Kd.R_lt (by (with_reducible repeat (first | apply Kd.R_alloc | apply Kd.R_drewN | apply Kd.R_drew)); exact (Kd.R_mono (Kd.R_far (p := ⟨gb101, 4, none⟩) (Kd.R_types HO108.out BK101.out (by decide)) (fun _ hk => hk.2) (.bool true)) (fun _ h_ => h_.1))))) (Kd.R_lt (by (with_reducible repeat (first | apply Kd.R_alloc | apply Kd.R_drewN | apply Kd.R_drew)); exact (Kd.R_mono (Kd.R_far (p := ⟨gb101, 4, none⟩) (Kd.R_types HO111.out BK101.out (by decide)) (fun _ hk => hk.2) (.bool true)) (fun _ h_ => h_.1))))) (Kd.R_lt (by (with_reducible repeat (first | apply Kd.R_alloc | apply Kd.R_drewN | apply Kd.R_drew)); exact (Kd.R_mono (Kd.R_far (p := ⟨gb101, 4, none⟩) (Kd.R_types HO114.out BK101.out (by decide)) (fun _ hk => hk.2) (.bool true)) (fun _ h_ => h_.1))))) (below_size (by repeat (first | (with_reducible first | exact HB.out | apply below_alloc | apply pw_below_drewN | apply below_drew1 | refine below_set ?_ GE101.out) | exact HB.out)))); have n6_ := Aside0.mk (blk_below (g := gb101) (o := .cells #[.bool a0_0, .slice A0_1 l0_1.length c0_1, .slice A0_2 l0_2.length c0_2, .slice A0_3 l0_3.length c0_3, .bool true, .bool a0_5, .int .i64 a0_6, .bool a0_7] 24 (0, 0)) (by (with_reducible repeat (first | refine blk_drewN ?_ _ | refine blk_drew ?_ | refine blk_alloc ?_ _)); refine blk_put (cs := #[.bool a0_0, .slice A0_1 l0_1.length c0_1, .slice A0_2 l0_2.length c0_2, .slice A0_3 l0_3.length c0_3, .bool a0_4, .bool a0_5, .int .i64 a0_6, .bool a0_7]) ?_ 4 _ rfl; (with_reducible repeat (first | refine blk_drewN ?_ _ | refine blk_drew ?_ | refine blk_alloc ?_ _)); exact BK101.out) hb); have n7_ := Aside0.mk (below_step (by repeat (first | (with_reducible first | exact HB.out | apply below_alloc | apply pw_below_drewN | apply below_drew1 | refine below_set ?_ GE101.out) | exact HB.out)) hb); clear HO108; clear HO111; clear HO114; clear BK101; clear HB; have HO108 := n0_; have HO111 := n1_; have HO114 := n2_; have HO123 := n3_; have HO126 := n4_; have HO129 := n5_; have BK101 := n6_; have HB := n7_; clear n0_ n1_ n2_ n3_ n4_ n5_ n6_ n7_; (try clear hb); (try clear hb2); (try clear hk); (try clear hi); (try clear ho0); (try clear ho1); (try clear ho2); obtain ⟨Ao29, co29, eo29⟩ := Kd.R_slice HO123.out; subst eo29; obtain ⟨Ao30, co30, eo30⟩ := Kd.R_slice HO126.out; subst eo30; obtain ⟨Ao31, co31, eo31⟩ := Kd.R_slice HO129.out; subst eo31) | ((with_reducible refine gate_callee (f := 13) rfl ?_); refine goesL_ (some 19) rfl rfl Tryd.func13 (by kernel_rfl) rfl #[.agg #[.bool t120, .slice Ao29 t121.length co29, .slice Ao30 t124.length co30, .slice Ao31 t127.length co31, .bool t130, .bool t131, .int .i64 t132, .bool t133]] rfl (by (try simp only [List.map_toArray, List.map_cons, List.map_nil]); first | done | rfl | (simp only [List.length_drop, List.length_take]; rfl)) ?_; (with_reducible refine (fence_Decide.calls kj1 t120 _ _ t121 _ _ t124 _ _ t127 t130 t131 t132 t133 t134 _ ?side1 ?side2 ?side3 ?side4 ?side5 ?side6 A17.out).mono ?_); (case side1 => repeat (first | exact (Kd.R_reads' HO123.out).2.2 | (with_reducible refine Kd.C_alloc ?_ _) | (with_reducible refine Kd.C_drewN ?_ _) | (with_reducible refine Kd.C_drew ?_))); (case side2 => exact (Kd.R_reads' HO123.out).2.1); (case side3 => repeat (first | exact (Kd.R_reads' HO126.out).2.2 | (with_reducible refine Kd.C_alloc ?_ _) | (with_reducible refine Kd.C_drewN ?_ _) | (with_reducible refine Kd.C_drew ?_))); (case side4 => exact (Kd.R_reads' HO126.out).2.1); (case side5 => repeat (first | exact (Kd.R_reads' HO129.out).2.2 | (with_reducible refine Kd.C_alloc ?_ _) | (with_reducible refine Kd.C_drewN ?_ _) | (with_reducible refine Kd.C_drew ?_))); (case side6 => exact (Kd.R_reads' HO129.out).2.1); rintro e w32 ⟨rfl, hb⟩; refine ⟨_, rfl, ?_⟩; have n0_ := Aside0.mk (Kd.R_below (by (with_reducible repeat (first | apply Kd.R_alloc | apply Kd.R_drewN | apply Kd.R_drew)); exact HO108.out) hb); have n1_ := Aside0.mk (Kd.R_below (by (with_reducible repeat (first | apply Kd.R_alloc | apply Kd.R_drewN | apply Kd.R_drew)); exact HO111.out) hb); have n2_ := Aside0.mk (Kd.R_below (by (with_reducible repeat (first | apply Kd.R_alloc | apply Kd.R_drewN | apply Kd.R_drew)); exact HO114.out) hb); have n3_ := Aside0.mk (Kd.R_below (by (with_reducible repeat (first | apply Kd.R_alloc | apply Kd.R_drewN | apply Kd.R_drew)); exact HO123.out) hb); have n4_ := Aside0.mk (Kd.R_below (by (with_reducible repeat (first | apply Kd.R_alloc | apply Kd.R_drewN | apply Kd.R_drew)); exact HO126.out) hb); have n5_ := Aside0.mk (Kd.R_below (by (with_reducible repeat (first | apply Kd.R_alloc | apply Kd.R_drewN | apply Kd.R_drew)); exact HO129.out) hb); have n6_ := Aside0.mk (blk_below (g := gb101) (o := .cells #[.bool a0_0, .slice A0_1 l0_1.length c0_1, .slice A0_2 l0_2.length c0_2, .slice A0_3 l0_3.length c0_3, .bool true, .bool a0_5, .int .i64 a0_6, .bool a0_7] 24 (0, 0)) (by (with_reducible repeat (first | refine blk_drewN ?_ _ | refine blk_drew ?_ | refine blk_alloc ?_ _)); exact BK101.out) hb); have n7_ := Aside0.mk (below_step (by repeat (first | (with_reducible first | exact HB.out | apply below_alloc | apply pw_below_drewN | apply below_drew1 | refine below_set ?_ GE101.out) | exact HB.out)) hb); clear HO108; clear HO111; clear HO114; clear HO123; clear HO126; clear HO129; clear BK101; clear HB; have HO108 := n0_; have HO111 := n1_; have HO114 := n2_; have HO123 := n3_; have HO126 := n4_; have HO129 := n5_; have BK101 := n6_; have HB := n7_; clear n0_ n1_ n2_ n3_ n4_ n5_ n6_ n7_; (try clear hb); (try clear hb2); (try clear hk); (try clear hi); have hcz33_0 : w32.cell? ⟨gb101, 0, none⟩ = some (.bool a0_0) := (blk_cell BK101.out 0).trans rfl; have hcz33_1 : w32.cell? ⟨gb101, 1, none⟩ = some (.slice A0_1 l0_1.length c0_1) := (blk_cell BK101.out 1).trans rfl; have hcz33_2 : w32.cell? ⟨gb101, 2, none⟩ = some (.slice A0_2 l0_2.length c0_2) := (blk_cell BK101.out 2).trans rfl; have hcz33_3 : w32.cell? ⟨gb101, 3, none⟩ = some (.slice A0_3 l0_3.length c0_3) := (blk_cell BK101.out 3).trans rfl; have hcz33_4 : w32.cell? ⟨gb101, 4, none⟩ = some (.bool true) := (blk_cell BK101.out 4).trans rfl; have hcz33_5 : w32.cell? ⟨gb101, 5, none⟩ = some (.bool a0_5) := (blk_cell BK101.out 5).trans rfl; have hcz33_6 : w32.cell? ⟨gb101, 6, none⟩ = some (.int .i64 a0_6) := (blk_cell BK101.out 6).trans rfl; have hcz33_7 : w32.cell? ⟨gb101, 7, none⟩ = some (.bool a0_7) := (blk_cell BK101.out 7).trans rfl; have hfz33_0 := blk_frozen BK101.out 0; have hfz33_1 := blk_frozen BK101.out 1; have hfz33_2 := blk_frozen BK101.out 2; have hfz33_3 := blk_frozen BK101.out 3; have hfz33_4 := blk_frozen BK101.out 4; have hfz33_5 := blk_frozen BK101.out 5; have hfz33_6 := blk_frozen BK101.out 6; have hfz33_7 := blk_frozen BK101.out 7) | ((with_reducible refine gate_callee (f := 14) rfl ?_); refine goesL_ (some 22) rfl rfl Tryd.func14 (by kernel_rfl) rfl #[.agg #[.bool a0_0, .slice A0_1 l0_1.length c0_1, .slice A0_2 l0_2.length c0_2, .slice A0_3 l0_3.length c0_3, .bool true, .bool true, .int .i64 a0_6, .bool a0_7]] rfl (by (try simp only [List.map_toArray, List.map_cons, List.map_nil]); first | done | rfl | (simp only [List.length_drop, List.length_take]; rfl)) ?_; (with_reducible refine (mandolinelaw37_own.calls a0_0 _ _ l0_1 _ _ l0_2 _ _ l0_3 true true a0_6 a0_7 t135 t136 t139 t142 t145 t146 t147 t148 _ ?side1 ?side2 ?side3 ?side4 ?side5 ?side6 A18.out).mono ?_); (case side1 => exact Kd.C_below HR0_1.out (by repeat (first | (with_reducible first | exact HB.out | apply below_alloc | apply pw_below_drewN | apply below_drew1 | refine below_set ?_ GE101.out) | exact HB.out))); (case side2 => exact HC0_1.out); (case side3 => exact Kd.C_below HR0_2.out (by repeat (first | (with_reducible first | exact HB.out | apply below_alloc | apply pw_below_drewN | apply below_drew1 | refine below_set ?_ GE101.out) | exact HB.out))); (case side4 => exact HC0_2.out); (case side5 => exact Kd.C_below HR0_3.out (by repeat (first | (with_reducible first | exact HB.out | apply below_alloc | apply pw_below_drewN | apply below_drew1 | refine below_set ?_ GE101.out) | exact HB.out))); (case side6 => exact HC0_3.out); rintro e w34 ⟨v137, v140, v143, rfl, ho0, ho1, ho2, hb⟩; refine ⟨_, rfl, ?_⟩; have n0_ := Aside0.mk (Kd.R_mono (Kd.R_told (Kd.R_told (Kd.R_told (Kd.R_old (by (with_reducible repeat (first | apply Kd.R_alloc | apply Kd.R_drewN | apply Kd.R_drew)); exact (Kd.R_mono (Kd.R_far (p := ⟨gb101, 5, none⟩) (Kd.R_types HO108.out BK101.out (by decide)) (fun _ hk => hk.2) (.bool true)) (fun _ h_ => h_.1))) hb) (Kd.R_base ho0)) (Kd.R_base ho1)) (Kd.R_base ho2)) (fun _ h_ => h_.1)); have n1_ := Aside0.mk (Kd.R_mono (Kd.R_told (Kd.R_told (Kd.R_told (Kd.R_old (by (with_reducible repeat (first | apply Kd.R_alloc | apply Kd.R_drewN | apply Kd.R_drew)); exact (Kd.R_mono (Kd.R_far (p := ⟨gb101, 5, none⟩) (Kd.R_types HO111.out BK101.out (by decide)) (fun _ hk => hk.2) (.bool true)) (fun _ h_ => h_.1))) hb) (Kd.R_base ho0)) (Kd.R_base ho1)) (Kd.R_base ho2)) (fun _ h_ => h_.1)); have n2_ := Aside0.mk (Kd.R_mono (Kd.R_told (Kd.R_told (Kd.R_told (Kd.R_old (by (with_reducible repeat (first | apply Kd.R_alloc | apply Kd.R_drewN | apply Kd.R_drew)); exact (Kd.R_mono (Kd.R_far (p := ⟨gb101, 5, none⟩) (Kd.R_types HO114.out BK101.out (by decide)) (fun _ hk => hk.2) (.bool true)) (fun _ h_ => h_.1))) hb) (Kd.R_base ho0)) (Kd.R_base ho1)) (Kd.R_base ho2)) (fun _ h_ => h_.1)); have n3_ := Aside0.mk (Kd.R_mono (Kd.R_told (Kd.R_told (Kd.R_told (Kd.R_old (by (with_reducible repeat (first | apply Kd.R_alloc | apply Kd.R_drewN | apply Kd.R_drew)); exact (Kd.R_mono (Kd.R_far (p := ⟨gb101, 5, none⟩) (Kd.R_types HO123.out BK101.out (by decide)) (fun _ hk => hk.2) (.bool true)) (fun _ h_ => h_.1))) hb) (Kd.R_base ho0)) (Kd.R_base ho1)) (Kd.R_base ho2)) (fun _ h_ => h_.1)); have n4_ := Aside0.mk (Kd.R_mono (Kd.R_told (Kd.R_told (Kd.R_told (Kd.R_old (by (with_reducible repeat (first | apply Kd.R_alloc | apply Kd.R_drewN | apply Kd.R_drew)); exact (Kd.R_mono (Kd.R_far (p := ⟨gb101, 5, none⟩) (Kd.R_types HO126.out BK101.out (by decide)) (fun _ hk => hk.2) (.bool true)) (fun _ h_ => h_.1))) hb) (Kd.R_base ho0)) (Kd.R_base ho1)) (Kd.R_base ho2)) (fun _ h_ => h_.1)); have n5_ := Aside0.mk (Kd.R_mono (Kd.R_told (Kd.R_told (Kd.R_told (Kd.R_old (by (with_reducible repeat (first | apply Kd.R_alloc | apply Kd.R_drewN | apply Kd.R_drew)); exact (Kd.R_mono (Kd.R_far (p := ⟨gb101, 5, none⟩) (Kd.R_types HO129.out BK101.out (by decide)) (fun _ hk => hk.2) (.bool true)) (fun _ h_ => h_.1))) hb) (Kd.R_base ho0)) (Kd.R_base ho1)) (Kd.R_base ho2)) (fun _ h_ => h_.1)); have n6_ := Aside0.mk (Kd.R_lower (Kd.R_new' (Kd.R_new' (Kd.R_new' (Kd.R_new' (Kd.R_new' (Kd.R_new' ho0 (Kd.R_lt (by (with_reducible repeat (first | apply Kd.R_alloc | apply Kd.R_drewN | apply Kd.R_drew)); exact (Kd.R_mono (Kd.R_far (p := ⟨gb101, 5, none⟩) (Kd.R_types HO108.out BK101.out (by decide)) (fun _ hk => hk.2) (.bool true)) (fun _ h_ => h_.1))))) (Kd.R_lt (by (with_reducible repeat (first | apply Kd.R_alloc | apply Kd.R_drewN | apply Kd.R_drew)); exact (Kd.R_mono (Kd.R_far (p := ⟨gb101, 5, none⟩) (Kd.R_types HO111.out BK101.out (by decide)) (fun _ hk => hk.2) (.bool true)) (fun _ h_ => h_.1))))) (Kd.R_lt (by (with_reducible repeat (first | apply Kd.R_alloc | apply Kd.R_drewN | apply Kd.R_drew)); exact (Kd.R_mono (Kd.R_far (p := ⟨gb101, 5, none⟩) (Kd.R_types HO114.out BK101.out (by decide)) (fun _ hk => hk.2) (.bool true)) (fun _ h_ => h_.1))))) (Kd.R_lt (by (with_reducible repeat (first | apply Kd.R_alloc | apply Kd.R_drewN | apply Kd.R_drew)); exact (Kd.R_mono (Kd.R_far (p := ⟨gb101, 5, none⟩) (Kd.R_types HO123.out BK101.out (by decide)) (fun _ hk => hk.2) (.bool true)) (fun _ h_ => h_.1))))) (Kd.R_lt (by (with_reducible repeat (first | apply Kd.R_alloc | apply Kd.R_drewN | apply Kd.R_drew)); exact (Kd.R_mono (Kd.R_far (p := ⟨gb101, 5, none⟩) (Kd.R_types HO126.out BK101.out (by decide)) (fun _ hk => hk.2) (.bool true)) (fun _ h_ => h_.1))))) (Kd.R_lt (by (with_reducible repeat (first | apply Kd.R_alloc | apply Kd.R_drewN | apply Kd.R_drew)); exact (Kd.R_mono (Kd.R_far (p := ⟨gb101, 5, none⟩) (Kd.R_types HO129.out BK101.out (by decide)) (fun _ hk => hk.2) (.bool true)) (fun _ h_ => h_.1))))) (below_size (by repeat (first | (with_reducible first | exact HB.out | apply below_alloc | apply pw_below_drewN | apply below_drew1 | refine below_set ?_ GE101.out) | exact HB.out)))); have n7_ := Aside0.mk (Kd.R_lower (Kd.R_new' (Kd.R_new' (Kd.R_new' (Kd.R_new' (Kd.R_new' (Kd.R_new' ho1 (Kd.R_lt (by (with_reducible repeat (first | apply Kd.R_alloc | apply Kd.R_drewN | apply Kd.R_drew)); exact (Kd.R_mono (Kd.R_far (p := ⟨gb101, 5, none⟩) (Kd.R_types HO108.out BK101.out (by decide)) (fun _ hk => hk.2) (.bool true)) (fun _ h_ => h_.1))))) (Kd.R_lt (by (with_reducible repeat (first | apply Kd.R_alloc | apply Kd.R_drewN | apply Kd.R_drew)); exact (Kd.R_mono (Kd.R_far (p := ⟨gb101, 5, none⟩) (Kd.R_types HO111.out BK101.out (by decide)) (fun _ hk => hk.2) (.bool true)) (fun _ h_ => h_.1))))) (Kd.R_lt (by (with_reducible repeat (first | apply Kd.R_alloc | apply Kd.R_drewN | apply Kd.R_drew)); exact (Kd.R_mono (Kd.R_far (p := ⟨gb101, 5, none⟩) (Kd.R_types HO114.out BK101.out (by decide)) (fun _ hk => hk.2) (.bool true)) (fun _ h_ => h_.1))))) (Kd.R_lt (by (with_reducible repeat (first | apply Kd.R_alloc | apply Kd.R_drewN | apply Kd.R_drew)); exact (Kd.R_mono (Kd.R_far (p := ⟨gb101, 5, none⟩) (Kd.R_types HO123.out BK101.out (by decide)) (fun _ hk => hk.2) (.bool true)) (fun _ h_ => h_.1))))) (Kd.R_lt (by (with_reducible repeat (first | apply Kd.R_alloc | apply Kd.R_drewN | apply Kd.R_drew)); exact (Kd.R_mono (Kd.R_far (p := ⟨gb101, 5, none⟩) (Kd.R_types HO126.out BK101.out (by decide)) (fun _ hk => hk.2) (.bool true)) (fun _ h_ => h_.1))))) (Kd.R_lt (by (with_reducible repeat (first | apply Kd.R_alloc | apply Kd.R_drewN | apply Kd.R_drew)); exact (Kd.R_mono (Kd.R_far (p := ⟨gb101, 5, none⟩) (Kd.R_types HO129.out BK101.out (by decide)) (fun _ hk => hk.2) (.bool true)) (fun _ h_ => h_.1))))) (below_size (by repeat (first | (with_reducible first | exact HB.out | apply below_alloc | apply pw_below_drewN | apply below_drew1 | refine below_set ?_ GE101.out) | exact HB.out)))); have n8_ := Aside0.mk (Kd.R_lower (Kd.R_new' (Kd.R_new' (Kd.R_new' (Kd.R_new' (Kd.R_new' (Kd.R_new' ho2 (Kd.R_lt (by (with_reducible repeat (first | apply Kd.R_alloc | apply Kd.R_drewN | apply Kd.R_drew)); exact (Kd.R_mono (Kd.R_far (p := ⟨gb101, 5, none⟩) (Kd.R_types HO108.out BK101.out (by decide)) (fun _ hk => hk.2) (.bool true)) (fun _ h_ => h_.1))))) (Kd.R_lt (by (with_reducible repeat (first | apply Kd.R_alloc | apply Kd.R_drewN | apply Kd.R_drew)); exact (Kd.R_mono (Kd.R_far (p := ⟨gb101, 5, none⟩) (Kd.R_types HO111.out BK101.out (by decide)) (fun _ hk => hk.2) (.bool true)) (fun _ h_ => h_.1))))) (Kd.R_lt (by (with_reducible repeat (first | apply Kd.R_alloc | apply Kd.R_drewN | apply Kd.R_drew)); exact (Kd.R_mono (Kd.R_far (p := ⟨gb101, 5, none⟩) (Kd.R_types HO114.out BK101.out (by decide)) (fun _ hk => hk.2) (.bool true)) (fun _ h_ => h_.1))))) (Kd.R_lt (by (with_reducible repeat (first | apply Kd.R_alloc | apply Kd.R_drewN | apply Kd.R_drew)); exact (Kd.R_mono (Kd.R_far (p := ⟨gb101, 5, none⟩) (Kd.R_types HO123.out BK101.out (by decide)) (fun _ hk => hk.2) (.bool true)) (fun _ h_ => h_.1))))) (Kd.R_lt (by (with_reducible repeat (first | apply Kd.R_alloc | apply Kd.R_drewN | apply Kd.R_drew)); exact (Kd.R_mono (Kd.R_far (p := ⟨gb101, 5, none⟩) (Kd.R_types HO126.out BK101.out (by decide)) (fun _ hk => hk.2) (.bool true)) (fun _ h_ => h_.1))))) (Kd.R_lt (by (with_reducible repeat (first | apply Kd.R_alloc | apply Kd.R_drewN | apply Kd.R_drew)); exact (Kd.R_mono (Kd.R_far (p := ⟨gb101, 5, none⟩) (Kd.R_types HO129.out BK101.out (by decide)) (fun _ hk => hk.2) (.bool true)) (fun _ h_ => h_.1))))) (below_size (by repeat (first | (with_reducible first | exact HB.out | apply below_alloc | apply pw_below_drewN | apply below_drew1 | refine below_set ?_ GE101.out) | exact HB.out)))); have n9_ := Aside0.mk (blk_below (g := gb101) (o := .cells #[.bool a0_0, .slice A0_1 l0_1.length c0_1, .slice A0_2 l0_2.length c0_2, .slice A0_3 l0_3.length c0_3, .bool true, .bool true, .int .i64 a0_6, .bool a0_7] 24 (0, 0)) (by (with_reducible repeat (first | refine blk_drewN ?_ _ | refine blk_drew ?_ | refine blk_alloc ?_ _)); refine blk_put (cs := #[.bool a0_0, .slice A0_1 l0_1.length c0_1, .slice A0_2 l0_2.length c0_2, .slice A0_3 l0_3.length c0_3, .bool true, .bool a0_5, .int .i64 a0_6, .bool a0_7]) ?_ 5 _ rfl; (with_reducible repeat (first | refine blk_drewN ?_ _ | refine blk_drew ?_ | refine blk_alloc ?_ _)); exact BK101.out) hb); have n10_ := Aside0.mk (below_step (by repeat (first | (with_reducible first | exact HB.out | apply below_alloc | apply pw_below_drewN | apply below_drew1 | refine below_set ?_ GE101.out) | exact HB.out)) hb); clear HO108; clear HO111; clear HO114; clear HO123; clear HO126; clear HO129; clear BK101; clear HB; have HO108 := n0_; have HO111 := n1_; have HO114 := n2_; have HO123 := n3_; have HO126 := n4_; have HO129 := n5_; have HO138 := n6_; have HO141 := n7_; have HO144 := n8_; have BK101 := n9_; have HB := n10_; clear n0_ n1_ n2_ n3_ n4_ n5_ n6_ n7_ n8_ n9_ n10_; (try clear hb); (try clear hb2); (try clear hk); (try clear hi); (try clear ho0); (try clear ho1); (try clear ho2); obtain ⟨Ao35, co35, eo35⟩ := Kd.R_slice HO138.out; subst eo35; obtain ⟨Ao36, co36, eo36⟩ := Kd.R_slice HO141.out; subst eo36; obtain ⟨Ao37, co37, eo37⟩ := Kd.R_slice HO144.out; subst eo37) | ((with_reducible refine gate_callee (f := 13) rfl ?_); refine goesL_ (some 23) rfl rfl Tryd.func13 (by kernel_rfl) rfl #[.agg #[.bool t135, .slice Ao35 t136.length co35, .slice Ao36 t139.length co36, .slice Ao37 t142.length co37, .bool t145, .bool t146, .int .i64 t147, .bool t148]] rfl (by (try simp only [List.map_toArray, List.map_cons, List.map_nil]); first | done | rfl | (simp only [List.length_drop, List.length_take]; rfl)) ?_; (with_reducible refine (fence_Decide.calls kj1 t135 _ _ t136 _ _ t139 _ _ t142 t145 t146 t147 t148 t149 _ ?side1 ?side2 ?side3 ?side4 ?side5 ?side6 A19.out).mono ?_); (case side1 => repeat (first | exact (Kd.R_reads' HO138.out).2.2 | (with_reducible refine Kd.C_alloc ?_ _) | (with_reducible refine Kd.C_drewN ?_ _) | (with_reducible refine Kd.C_drew ?_))); (case side2 => exact (Kd.R_reads' HO138.out).2.1); (case side3 => repeat (first | exact (Kd.R_reads' HO141.out).2.2 | (with_reducible refine Kd.C_alloc ?_ _) | (with_reducible refine Kd.C_drewN ?_ _) | (with_reducible refine Kd.C_drew ?_))); (case side4 => exact (Kd.R_reads' HO141.out).2.1); (case side5 => repeat (first | exact (Kd.R_reads' HO144.out).2.2 | (with_reducible refine Kd.C_alloc ?_ _) | (with_reducible refine Kd.C_drewN ?_ _) | (with_reducible refine Kd.C_drew ?_))); (case side6 => exact (Kd.R_reads' HO144.out).2.1); rintro e w38 ⟨rfl, hb⟩; refine ⟨_, rfl, ?_⟩; have n0_ := Aside0.mk (Kd.R_below (by (with_reducible repeat (first | apply Kd.R_alloc | apply Kd.R_drewN | apply Kd.R_drew)); exact HO108.out) hb); have n1_ := Aside0.mk (Kd.R_below (by (with_reducible repeat (first | apply Kd.R_alloc | apply Kd.R_drewN | apply Kd.R_drew)); exact HO111.out) hb); have n2_ := Aside0.mk (Kd.R_below (by (with_reducible repeat (first | apply Kd.R_alloc | apply Kd.R_drewN | apply Kd.R_drew)); exact HO114.out) hb); have n3_ := Aside0.mk (Kd.R_below (by (with_reducible repeat (first | apply Kd.R_alloc | apply Kd.R_drewN | apply Kd.R_drew)); exact HO123.out) hb); have n4_ := Aside0.mk (Kd.R_below (by (with_reducible repeat (first | apply Kd.R_alloc | apply Kd.R_drewN | apply Kd.R_drew)); exact HO126.out) hb); have n5_ := Aside0.mk (Kd.R_below (by (with_reducible repeat (first | apply Kd.R_alloc | apply Kd.R_drewN | apply Kd.R_drew)); exact HO129.out) hb); have n6_ := Aside0.mk (Kd.R_below (by (with_reducible repeat (first | apply Kd.R_alloc | apply Kd.R_drewN | apply Kd.R_drew)); exact HO138.out) hb); have n7_ := Aside0.mk (Kd.R_below (by (with_reducible repeat (first | apply Kd.R_alloc | apply Kd.R_drewN | apply Kd.R_drew)); exact HO141.out) hb); have n8_ := Aside0.mk (Kd.R_below (by (with_reducible repeat (first | apply Kd.R_alloc | apply Kd.R_drewN | apply Kd.R_drew)); exact HO144.out) hb); have n9_ := Aside0.mk (blk_below (g := gb101) (o := .cells #[.bool a0_0, .slice A0_1 l0_1.length c0_1, .slice A0_2 l0_2.length c0_2, .slice A0_3 l0_3.length c0_3, .bool true, .bool true, .int .i64 a0_6, .bool a0_7] 24 (0, 0)) (by (with_reducible repeat (first | refine blk_drewN ?_ _ | refine blk_drew ?_ | refine blk_alloc ?_ _)); exact BK101.out) hb); have n10_ := Aside0.mk (below_step (by repeat (first | (with_reducible first | exact HB.out | apply below_alloc | apply pw_below_drewN | apply below_drew1 | refine below_set ?_ GE101.out) | exact HB.out)) hb); clear HO108; clear HO111; clear HO114; clear HO123; clear HO126; clear HO129; clear HO138; clear HO141; clear HO144; clear BK101; clear HB; have HO108 := n0_; have HO111 := n1_; have HO114 := n2_; have HO123 := n3_; have HO126 := n4_; have HO129 := n5_; have HO138 := n6_; have HO141 := n7_; have HO144 := n8_; have BK101 := n9_; have HB := n10_; clear n0_ n1_ n2_ n3_ n4_ n5_ n6_ n7_ n8_ n9_ n10_; (try clear hb); (try clear hb2); (try clear hk); (try clear hi)))
    (try simp only [Act.put, List.setIfInBounds_toArray, List.set_cons_zero, List.set_cons_succ])
    go_cut [37] (fun v37 wc => ∃ (kq : Nat) (x37_19 : Bool), v37 = .bool x37_19 ∧ Aside0 (mandolinelaw37_FenceTurns.j1 kq t119 t134 t149 x37_19 = some r) ∧ Aside0 (kq ≤ kj1) ∧ Aside0 (wc.heap[gb101]? = some (.cells #[.bool a0_0, (.slice A0_1 l0_1.length c0_1), (.slice A0_2 l0_2.length c0_2), (.slice A0_3 l0_3.length c0_3), .bool true, .bool true, .int .i64 a0_6, .bool a0_7] 24 (0, 0))) ∧ Aside0 (Below w.heap.size w wc))
    case first =>
     have H := HC20.out
     clear HC20
     by_cases c39 : a0_0 = true
     ·subst c39
      have H1 : (if t119 = 4 then (mandolinelaw37_FenceTurns.j1 kj1 t119 t134 t149 true) else (if t134 = 4 then (mandolinelaw37_FenceTurns.j1 kj1 t119 t134 t149 true) else (mandolinelaw37_FenceTurns.j1 kj1 t119 t134 t149 (t149 == 4)))) = some r := by rw [if_pos rfl] at H; exact H
      clear H
      have H := H1
      clear H1
      by_cases c40 : t119 = 4
      ·rw [if_pos c40] at H
       have c40b0 : (t119 == 4) = true := beq_iff_eq.mpr c40
       have c40b1 : (t119 != 4) = false := bne_eq_false_iff_eq.mpr c40
       clear c40
       (first | rw [c40b0] | (simp only [i64_w, i32_w]; rw [c40b0]) | skip)
       have H' := Aside0.mk H
       clear H
       have hcz41_0 : w38.cell? ⟨gb101, 0, none⟩ = some (.bool true) := (blk_cell BK101.out 0).trans rfl
       have hcz41_1 : w38.cell? ⟨gb101, 1, none⟩ = some (.slice A0_1 l0_1.length c0_1) := (blk_cell BK101.out 1).trans rfl
       have hcz41_2 : w38.cell? ⟨gb101, 2, none⟩ = some (.slice A0_2 l0_2.length c0_2) := (blk_cell BK101.out 2).trans rfl
       have hcz41_3 : w38.cell? ⟨gb101, 3, none⟩ = some (.slice A0_3 l0_3.length c0_3) := (blk_cell BK101.out 3).trans rfl
       have hcz41_4 : w38.cell? ⟨gb101, 4, none⟩ = some (.bool true) := (blk_cell BK101.out 4).trans rfl
       have hcz41_5 : w38.cell? ⟨gb101, 5, none⟩ = some (.bool true) := (blk_cell BK101.out 5).trans rfl
       have hcz41_6 : w38.cell? ⟨gb101, 6, none⟩ = some (.int .i64 a0_6) := (blk_cell BK101.out 6).trans rfl
       have hcz41_7 : w38.cell? ⟨gb101, 7, none⟩ = some (.bool a0_7) := (blk_cell BK101.out 7).trans rfl
       have hfz41_0 := blk_frozen BK101.out 0
       have hfz41_1 := blk_frozen BK101.out 1
       have hfz41_2 := blk_frozen BK101.out 2
       have hfz41_3 := blk_frozen BK101.out 3
       have hfz41_4 := blk_frozen BK101.out 4
       have hfz41_5 := blk_frozen BK101.out 5
       have hfz41_6 := blk_frozen BK101.out 6
       have hfz41_7 := blk_frozen BK101.out 7
       go_wp2
       go_meet
       case rel => exact ⟨_, (true), (by first | rfl | (simp; done) | (simp [*]; done)), H', ⟨by have := HJ1.out; first | omega | exact Nat.le_refl _⟩, ⟨by (with_reducible repeat (first | refine blk_drewN ?_ _ | refine blk_drew ?_ | refine blk_alloc ?_ _)); exact BK101.out⟩, ⟨by repeat (first | (with_reducible first | exact HB.out | apply below_alloc | apply pw_below_drewN | apply below_drew1 | refine below_set ?_ GE101.out) | exact HB.out)⟩⟩
      ·rw [if_neg c40] at H
       have c40b0 : (t119 == 4) = false := beq_eq_false_iff_ne.mpr c40
       have c40b1 : (t119 != 4) = true := bne_iff_ne.mpr c40
       (first | rw [c40b0] | (simp only [i64_w, i32_w]; rw [c40b0]) | skip)
       by_cases c42 : t134 = 4
       ·rw [if_pos c42] at H
        have c42b0 : (t134 == 4) = true := beq_iff_eq.mpr c42
        have c42b1 : (t134 != 4) = false := bne_eq_false_iff_eq.mpr c42
        clear c42
        have H' := Aside0.mk H
        clear H
        have hcz43_0 : w38.cell? ⟨gb101, 0, none⟩ = some (.bool true) := (blk_cell BK101.out 0).trans rfl
        have hcz43_1 : w38.cell? ⟨gb101, 1, none⟩ = some (.slice A0_1 l0_1.length c0_1) := (blk_cell BK101.out 1).trans rfl
        have hcz43_2 : w38.cell? ⟨gb101, 2, none⟩ = some (.slice A0_2 l0_2.length c0_2) := (blk_cell BK101.out 2).trans rfl
        have hcz43_3 : w38.cell? ⟨gb101, 3, none⟩ = some (.slice A0_3 l0_3.length c0_3) := (blk_cell BK101.out 3).trans rfl
        have hcz43_4 : w38.cell? ⟨gb101, 4, none⟩ = some (.bool true) := (blk_cell BK101.out 4).trans rfl
        have hcz43_5 : w38.cell? ⟨gb101, 5, none⟩ = some (.bool true) := (blk_cell BK101.out 5).trans rfl
        have hcz43_6 : w38.cell? ⟨gb101, 6, none⟩ = some (.int .i64 a0_6) := (blk_cell BK101.out 6).trans rfl
        have hcz43_7 : w38.cell? ⟨gb101, 7, none⟩ = some (.bool a0_7) := (blk_cell BK101.out 7).trans rfl
        have hfz43_0 := blk_frozen BK101.out 0
        have hfz43_1 := blk_frozen BK101.out 1
        have hfz43_2 := blk_frozen BK101.out 2
        have hfz43_3 := blk_frozen BK101.out 3
        have hfz43_4 := blk_frozen BK101.out 4
        have hfz43_5 := blk_frozen BK101.out 5
        have hfz43_6 := blk_frozen BK101.out 6
        have hfz43_7 := blk_frozen BK101.out 7
        go_wp2
        go_meet
        case rel => exact ⟨_, (true), (by first | rfl | (simp; done) | (simp [*]; done)), H', ⟨by have := HJ1.out; first | omega | exact Nat.le_refl _⟩, ⟨by (with_reducible repeat (first | refine blk_drewN ?_ _ | refine blk_drew ?_ | refine blk_alloc ?_ _)); exact BK101.out⟩, ⟨by repeat (first | (with_reducible first | exact HB.out | apply below_alloc | apply pw_below_drewN | apply below_drew1 | refine below_set ?_ GE101.out) | exact HB.out)⟩⟩
       ·rw [if_neg c42] at H
        have c42b0 : (t134 == 4) = false := beq_eq_false_iff_ne.mpr c42
        have c42b1 : (t134 != 4) = true := bne_iff_ne.mpr c42
        have H' := Aside0.mk H
        clear H
        have hcz44_0 : w38.cell? ⟨gb101, 0, none⟩ = some (.bool true) := (blk_cell BK101.out 0).trans rfl
        have hcz44_1 : w38.cell? ⟨gb101, 1, none⟩ = some (.slice A0_1 l0_1.length c0_1) := (blk_cell BK101.out 1).trans rfl
        have hcz44_2 : w38.cell? ⟨gb101, 2, none⟩ = some (.slice A0_2 l0_2.length c0_2) := (blk_cell BK101.out 2).trans rfl
        have hcz44_3 : w38.cell? ⟨gb101, 3, none⟩ = some (.slice A0_3 l0_3.length c0_3) := (blk_cell BK101.out 3).trans rfl
        have hcz44_4 : w38.cell? ⟨gb101, 4, none⟩ = some (.bool true) := (blk_cell BK101.out 4).trans rfl
        have hcz44_5 : w38.cell? ⟨gb101, 5, none⟩ = some (.bool true) := (blk_cell BK101.out 5).trans rfl
        have hcz44_6 : w38.cell? ⟨gb101, 6, none⟩ = some (.int .i64 a0_6) := (blk_cell BK101.out 6).trans rfl
        have hcz44_7 : w38.cell? ⟨gb101, 7, none⟩ = some (.bool a0_7) := (blk_cell BK101.out 7).trans rfl
        have hfz44_0 := blk_frozen BK101.out 0
        have hfz44_1 := blk_frozen BK101.out 1
        have hfz44_2 := blk_frozen BK101.out 2
        have hfz44_3 := blk_frozen BK101.out 3
        have hfz44_4 := blk_frozen BK101.out 4
        have hfz44_5 := blk_frozen BK101.out 5
        have hfz44_6 := blk_frozen BK101.out 6
        have hfz44_7 := blk_frozen BK101.out 7
        go_wp2
        go_meet
        case rel => exact ⟨_, ((t149 == 4)), (by first | rfl | (simp; done) | (simp [*]; done)), H', ⟨by have := HJ1.out; first | omega | exact Nat.le_refl _⟩, ⟨by (with_reducible repeat (first | refine blk_drewN ?_ _ | refine blk_drew ?_ | refine blk_alloc ?_ _)); exact BK101.out⟩, ⟨by repeat (first | (with_reducible first | exact HB.out | apply below_alloc | apply pw_below_drewN | apply below_drew1 | refine below_set ?_ GE101.out) | exact HB.out)⟩⟩
     ·replace c39 := Bool.eq_false_iff.mpr c39
      subst c39
      have H1 : (mandolinelaw37_FenceTurns.j1 kj1 t119 t134 t149 false) = some r := by rw [if_neg (show ¬ (false = true) by decide)] at H; exact H
      clear H
      have H := H1
      clear H1
      have H' := Aside0.mk H
      clear H
      have hcz45_0 : w38.cell? ⟨gb101, 0, none⟩ = some (.bool false) := (blk_cell BK101.out 0).trans rfl
      have hcz45_1 : w38.cell? ⟨gb101, 1, none⟩ = some (.slice A0_1 l0_1.length c0_1) := (blk_cell BK101.out 1).trans rfl
      have hcz45_2 : w38.cell? ⟨gb101, 2, none⟩ = some (.slice A0_2 l0_2.length c0_2) := (blk_cell BK101.out 2).trans rfl
      have hcz45_3 : w38.cell? ⟨gb101, 3, none⟩ = some (.slice A0_3 l0_3.length c0_3) := (blk_cell BK101.out 3).trans rfl
      have hcz45_4 : w38.cell? ⟨gb101, 4, none⟩ = some (.bool true) := (blk_cell BK101.out 4).trans rfl
      have hcz45_5 : w38.cell? ⟨gb101, 5, none⟩ = some (.bool true) := (blk_cell BK101.out 5).trans rfl
      have hcz45_6 : w38.cell? ⟨gb101, 6, none⟩ = some (.int .i64 a0_6) := (blk_cell BK101.out 6).trans rfl
      have hcz45_7 : w38.cell? ⟨gb101, 7, none⟩ = some (.bool a0_7) := (blk_cell BK101.out 7).trans rfl
      have hfz45_0 := blk_frozen BK101.out 0
      have hfz45_1 := blk_frozen BK101.out 1
      have hfz45_2 := blk_frozen BK101.out 2
      have hfz45_3 := blk_frozen BK101.out 3
      have hfz45_4 := blk_frozen BK101.out 4
      have hfz45_5 := blk_frozen BK101.out 5
      have hfz45_6 := blk_frozen BK101.out 6
      have hfz45_7 := blk_frozen BK101.out 7
      go_wp2
      go_meet
      case rel => exact ⟨_, (false), (by first | rfl | (simp; done) | (simp [*]; done)), H', ⟨by have := HJ1.out; first | omega | exact Nat.le_refl _⟩, ⟨by (with_reducible repeat (first | refine blk_drewN ?_ _ | refine blk_drew ?_ | refine blk_alloc ?_ _)); exact BK101.out⟩, ⟨by repeat (first | (with_reducible first | exact HB.out | apply below_alloc | apply pw_below_drewN | apply below_drew1 | refine below_set ?_ GE101.out) | exact HB.out)⟩⟩
    case rest =>
     clear HC20
     try clear c1
     try clear p2
     try clear c3
     try clear c4
     try clear c5
     try clear c6
     try clear c11
     try clear c13
     try clear c14
     try clear c39
     try clear c40
     try clear c40b0
     try clear c40b1
     try clear c42
     try clear c42b0
     try clear c42b1
     try clear hcz21_0
     try clear hcz21_1
     try clear hcz21_2
     try clear hcz21_3
     try clear hcz21_4
     try clear hcz21_5
     try clear hcz21_6
     try clear hcz21_7
     try clear hcz27_0
     try clear hcz27_1
     try clear hcz27_2
     try clear hcz27_3
     try clear hcz27_4
     try clear hcz27_5
     try clear hcz27_6
     try clear hcz27_7
     try clear hcz33_0
     try clear hcz33_1
     try clear hcz33_2
     try clear hcz33_3
     try clear hcz33_4
     try clear hcz33_5
     try clear hcz33_6
     try clear hcz33_7
     try clear hcz41_0
     try clear hcz41_1
     try clear hcz41_2
     try clear hcz41_3
     try clear hcz41_4
     try clear hcz41_5
     try clear hcz41_6
     try clear hcz41_7
     try clear hcz43_0
     try clear hcz43_1
     try clear hcz43_2
     try clear hcz43_3
     try clear hcz43_4
     try clear hcz43_5
     try clear hcz43_6
     try clear hcz43_7
     try clear hcz44_0
     try clear hcz44_1
     try clear hcz44_2
     try clear hcz44_3
     try clear hcz44_4
     try clear hcz44_5
     try clear hcz44_6
     try clear hcz44_7
     try clear hcz45_0
     try clear hcz45_1
     try clear hcz45_2
     try clear hcz45_3
     try clear hcz45_4
     try clear hcz45_5
     try clear hcz45_6
     try clear hcz45_7
     try clear hcz8_0
     try clear hcz8_1
     try clear hcz8_2
     try clear hcz8_3
     try clear hcz8_4
     try clear hcz8_5
     try clear hcz8_6
     try clear hcz8_7
     try clear hfz21_0
     try clear hfz21_1
     try clear hfz21_2
     try clear hfz21_3
     try clear hfz21_4
     try clear hfz21_5
     try clear hfz21_6
     try clear hfz21_7
     try clear hfz27_0
     try clear hfz27_1
     try clear hfz27_2
     try clear hfz27_3
     try clear hfz27_4
     try clear hfz27_5
     try clear hfz27_6
     try clear hfz27_7
     try clear hfz33_0
     try clear hfz33_1
     try clear hfz33_2
     try clear hfz33_3
     try clear hfz33_4
     try clear hfz33_5
     try clear hfz33_6
     try clear hfz33_7
     try clear hfz41_0
     try clear hfz41_1
     try clear hfz41_2
     try clear hfz41_3
     try clear hfz41_4
     try clear hfz41_5
     try clear hfz41_6
     try clear hfz41_7
     try clear hfz43_0
     try clear hfz43_1
     try clear hfz43_2
     try clear hfz43_3
     try clear hfz43_4
     try clear hfz43_5
     try clear hfz43_6
     try clear hfz43_7
     try clear hfz44_0
     try clear hfz44_1
     try clear hfz44_2
     try clear hfz44_3
     try clear hfz44_4
     try clear hfz44_5
     try clear hfz44_6
     try clear hfz44_7
     try clear hfz45_0
     try clear hfz45_1
     try clear hfz45_2
     try clear hfz45_3
     try clear hfz45_4
     try clear hfz45_5
     try clear hfz45_6
     try clear hfz45_7
     try clear hfz8_0
     try clear hfz8_1
     try clear hfz8_2
     try clear hfz8_3
     try clear hfz8_4
     try clear hfz8_5
     try clear hfz8_6
     try clear hfz8_7
     try clear p2
     obtain ⟨kq, x37_19, rfl, HA, HJ19, BK101, HB⟩ := hcut
     cases kq with
     | zero => exact absurd HA.out (by simp [mandolinelaw37_FenceTurns.j1])
     | succ kj19 =>
      have H := HA.out
      clear HA
      simp only [mandolinelaw37_FenceTurns.j1] at H
      by_cases c46 : x37_19 = true
      ·subst c46
       have H1 : (some false) = some r := by rw [if_pos rfl] at H; exact H
       clear H
       have H := H1
       clear H1
       obtain rfl := Option.some.inj H
       go_wp2
       go_ret
       exact ⟨by first | rfl | (simp [errW_none, errW_some] <;> rfl) | (simp [*, errW_none, errW_some] <;> rfl), by repeat (first | (with_reducible first | exact HB.out | apply below_alloc | apply pw_below_drewN | apply below_drew1 | refine below_set ?_ GE101.out) | exact HB.out)⟩
      ·replace c46 := Bool.eq_false_iff.mpr c46
       subst c46
       have H1 : (if t119 = 5 then (if t134 = t119 then (if t119 = 3 then (if t134 = 5 then (if t149 = t134 then (some (t134 != 3)) else (some false)) else (if t134 = 4 then (if t149 = t134 then (some (t134 != 3)) else (some false)) else (some false))) else (if t149 = t134 then (some (t134 != 3)) else (some false))) else (some false)) else (if t119 = 6 then (if t134 = t119 then (if t119 = 3 then (if t134 = 5 then (if t149 = t134 then (some (t134 != 3)) else (some false)) else (if t134 = 4 then (if t149 = t134 then (some (t134 != 3)) else (some false)) else (some false))) else (if t149 = t134 then (some (t134 != 3)) else (some false))) else (some false)) else (if t119 = 4 then (if t134 = t119 then (if t119 = 3 then (if t134 = 5 then (if t149 = t134 then (some (t134 != 3)) else (some false)) else (if t134 = 4 then (if t149 = t134 then (some (t134 != 3)) else (some false)) else (some false))) else (if t149 = t134 then (some (t134 != 3)) else (some false))) else (some false)) else (if t119 = 3 then (if t134 = 5 then (if t149 = t134 then (some (t134 != 3)) else (some false)) else (if t134 = 4 then (if t149 = t134 then (some (t134 != 3)) else (some false)) else (some false))) else (if t149 = t134 then (some (t134 != 3)) else (some false)))))) = some r := by rw [if_neg (show ¬ (false = true) by decide)] at H; exact H
       clear H
       have H := H1
       clear H1
       by_cases c47 : t119 = 5
       ·rw [if_pos c47] at H
        have c47b0 : (t119 == 5) = true := beq_iff_eq.mpr c47
        have c47b1 : (t119 != 5) = false := bne_eq_false_iff_eq.mpr c47
        clear c47
        by_cases c48 : t134 = t119
        ·rw [if_pos c48] at H
         have c48b0 : (t134 == t119) = true := beq_iff_eq.mpr c48
         have c48b1 : (t134 != t119) = false := bne_eq_false_iff_eq.mpr c48
         clear c48
         by_cases c49 : t119 = 3
         ·rw [if_pos c49] at H
          have c49b0 : (t119 == 3) = true := beq_iff_eq.mpr c49
          have c49b1 : (t119 != 3) = false := bne_eq_false_iff_eq.mpr c49
          clear c49
          by_cases c50 : t134 = 5
          ·rw [if_pos c50] at H
           have c50b0 : (t134 == 5) = true := beq_iff_eq.mpr c50
           have c50b1 : (t134 != 5) = false := bne_eq_false_iff_eq.mpr c50
           clear c50
           by_cases c51 : t149 = t134
           ·rw [if_pos c51] at H
            have c51b0 : (t149 == t134) = true := beq_iff_eq.mpr c51
            have c51b1 : (t149 != t134) = false := bne_eq_false_iff_eq.mpr c51
            clear c51
            obtain rfl := Option.some.inj H
            go_wp2
            go_ret
            exact ⟨by first | rfl | (simp [errW_none, errW_some] <;> rfl) | (simp [*, errW_none, errW_some] <;> rfl), by repeat (first | (with_reducible first | exact HB.out | apply below_alloc | apply pw_below_drewN | apply below_drew1 | refine below_set ?_ GE101.out) | exact HB.out)⟩
           ·rw [if_neg c51] at H
            have c51b0 : (t149 == t134) = false := beq_eq_false_iff_ne.mpr c51
            have c51b1 : (t149 != t134) = true := bne_iff_ne.mpr c51
            obtain rfl := Option.some.inj H
            go_wp2
            go_ret
            exact ⟨by first | rfl | (simp [errW_none, errW_some] <;> rfl) | (simp [*, errW_none, errW_some] <;> rfl), by repeat (first | (with_reducible first | exact HB.out | apply below_alloc | apply pw_below_drewN | apply below_drew1 | refine below_set ?_ GE101.out) | exact HB.out)⟩
          ·rw [if_neg c50] at H
           have c50b0 : (t134 == 5) = false := beq_eq_false_iff_ne.mpr c50
           have c50b1 : (t134 != 5) = true := bne_iff_ne.mpr c50
           by_cases c52 : t134 = 4
           ·rw [if_pos c52] at H
            have c52b0 : (t134 == 4) = true := beq_iff_eq.mpr c52
            have c52b1 : (t134 != 4) = false := bne_eq_false_iff_eq.mpr c52
            clear c52
            by_cases c53 : t149 = t134
            ·rw [if_pos c53] at H
             have c53b0 : (t149 == t134) = true := beq_iff_eq.mpr c53
             have c53b1 : (t149 != t134) = false := bne_eq_false_iff_eq.mpr c53
             clear c53
             obtain rfl := Option.some.inj H
             go_wp2
             go_ret
             exact ⟨by first | rfl | (simp [errW_none, errW_some] <;> rfl) | (simp [*, errW_none, errW_some] <;> rfl), by repeat (first | (with_reducible first | exact HB.out | apply below_alloc | apply pw_below_drewN | apply below_drew1 | refine below_set ?_ GE101.out) | exact HB.out)⟩
            ·rw [if_neg c53] at H
             have c53b0 : (t149 == t134) = false := beq_eq_false_iff_ne.mpr c53
             have c53b1 : (t149 != t134) = true := bne_iff_ne.mpr c53
             obtain rfl := Option.some.inj H
             go_wp2
             go_ret
             exact ⟨by first | rfl | (simp [errW_none, errW_some] <;> rfl) | (simp [*, errW_none, errW_some] <;> rfl), by repeat (first | (with_reducible first | exact HB.out | apply below_alloc | apply pw_below_drewN | apply below_drew1 | refine below_set ?_ GE101.out) | exact HB.out)⟩
           ·rw [if_neg c52] at H
            have c52b0 : (t134 == 4) = false := beq_eq_false_iff_ne.mpr c52
            have c52b1 : (t134 != 4) = true := bne_iff_ne.mpr c52
            obtain rfl := Option.some.inj H
            go_wp2
            go_ret
            exact ⟨by first | rfl | (simp [errW_none, errW_some] <;> rfl) | (simp [*, errW_none, errW_some] <;> rfl), by repeat (first | (with_reducible first | exact HB.out | apply below_alloc | apply pw_below_drewN | apply below_drew1 | refine below_set ?_ GE101.out) | exact HB.out)⟩
         ·rw [if_neg c49] at H
          have c49b0 : (t119 == 3) = false := beq_eq_false_iff_ne.mpr c49
          have c49b1 : (t119 != 3) = true := bne_iff_ne.mpr c49
          by_cases c54 : t149 = t134
          ·rw [if_pos c54] at H
           have c54b0 : (t149 == t134) = true := beq_iff_eq.mpr c54
           have c54b1 : (t149 != t134) = false := bne_eq_false_iff_eq.mpr c54
           clear c54
           obtain rfl := Option.some.inj H
           go_wp2
           go_ret
           exact ⟨by first | rfl | (simp [errW_none, errW_some] <;> rfl) | (simp [*, errW_none, errW_some] <;> rfl), by repeat (first | (with_reducible first | exact HB.out | apply below_alloc | apply pw_below_drewN | apply below_drew1 | refine below_set ?_ GE101.out) | exact HB.out)⟩
          ·rw [if_neg c54] at H
           have c54b0 : (t149 == t134) = false := beq_eq_false_iff_ne.mpr c54
           have c54b1 : (t149 != t134) = true := bne_iff_ne.mpr c54
           obtain rfl := Option.some.inj H
           go_wp2
           go_ret
           exact ⟨by first | rfl | (simp [errW_none, errW_some] <;> rfl) | (simp [*, errW_none, errW_some] <;> rfl), by repeat (first | (with_reducible first | exact HB.out | apply below_alloc | apply pw_below_drewN | apply below_drew1 | refine below_set ?_ GE101.out) | exact HB.out)⟩
        ·rw [if_neg c48] at H
         have c48b0 : (t134 == t119) = false := beq_eq_false_iff_ne.mpr c48
         have c48b1 : (t134 != t119) = true := bne_iff_ne.mpr c48
         obtain rfl := Option.some.inj H
         go_wp2
         go_ret
         exact ⟨by first | rfl | (simp [errW_none, errW_some] <;> rfl) | (simp [*, errW_none, errW_some] <;> rfl), by repeat (first | (with_reducible first | exact HB.out | apply below_alloc | apply pw_below_drewN | apply below_drew1 | refine below_set ?_ GE101.out) | exact HB.out)⟩
       ·rw [if_neg c47] at H
        have c47b0 : (t119 == 5) = false := beq_eq_false_iff_ne.mpr c47
        have c47b1 : (t119 != 5) = true := bne_iff_ne.mpr c47
        by_cases c55 : t119 = 6
        ·rw [if_pos c55] at H
         have c55b0 : (t119 == 6) = true := beq_iff_eq.mpr c55
         have c55b1 : (t119 != 6) = false := bne_eq_false_iff_eq.mpr c55
         clear c55
         by_cases c56 : t134 = t119
         ·rw [if_pos c56] at H
          have c56b0 : (t134 == t119) = true := beq_iff_eq.mpr c56
          have c56b1 : (t134 != t119) = false := bne_eq_false_iff_eq.mpr c56
          clear c56
          by_cases c57 : t119 = 3
          ·rw [if_pos c57] at H
           have c57b0 : (t119 == 3) = true := beq_iff_eq.mpr c57
           have c57b1 : (t119 != 3) = false := bne_eq_false_iff_eq.mpr c57
           clear c57
           by_cases c58 : t134 = 5
           ·rw [if_pos c58] at H
            have c58b0 : (t134 == 5) = true := beq_iff_eq.mpr c58
            have c58b1 : (t134 != 5) = false := bne_eq_false_iff_eq.mpr c58
            clear c58
            by_cases c59 : t149 = t134
            ·rw [if_pos c59] at H
             have c59b0 : (t149 == t134) = true := beq_iff_eq.mpr c59
             have c59b1 : (t149 != t134) = false := bne_eq_false_iff_eq.mpr c59
             clear c59
             obtain rfl := Option.some.inj H
             go_wp2
             go_ret
             exact ⟨by first | rfl | (simp [errW_none, errW_some] <;> rfl) | (simp [*, errW_none, errW_some] <;> rfl), by repeat (first | (with_reducible first | exact HB.out | apply below_alloc | apply pw_below_drewN | apply below_drew1 | refine below_set ?_ GE101.out) | exact HB.out)⟩
            ·rw [if_neg c59] at H
             have c59b0 : (t149 == t134) = false := beq_eq_false_iff_ne.mpr c59
             have c59b1 : (t149 != t134) = true := bne_iff_ne.mpr c59
             obtain rfl := Option.some.inj H
             go_wp2
             go_ret
             exact ⟨by first | rfl | (simp [errW_none, errW_some] <;> rfl) | (simp [*, errW_none, errW_some] <;> rfl), by repeat (first | (with_reducible first | exact HB.out | apply below_alloc | apply pw_below_drewN | apply below_drew1 | refine below_set ?_ GE101.out) | exact HB.out)⟩
           ·rw [if_neg c58] at H
            have c58b0 : (t134 == 5) = false := beq_eq_false_iff_ne.mpr c58
            have c58b1 : (t134 != 5) = true := bne_iff_ne.mpr c58
            by_cases c60 : t134 = 4
            ·rw [if_pos c60] at H
             have c60b0 : (t134 == 4) = true := beq_iff_eq.mpr c60
             have c60b1 : (t134 != 4) = false := bne_eq_false_iff_eq.mpr c60
             clear c60
             by_cases c61 : t149 = t134
             ·rw [if_pos c61] at H
              have c61b0 : (t149 == t134) = true := beq_iff_eq.mpr c61
              have c61b1 : (t149 != t134) = false := bne_eq_false_iff_eq.mpr c61
              clear c61
              obtain rfl := Option.some.inj H
              go_wp2
              go_ret
              exact ⟨by first | rfl | (simp [errW_none, errW_some] <;> rfl) | (simp [*, errW_none, errW_some] <;> rfl), by repeat (first | (with_reducible first | exact HB.out | apply below_alloc | apply pw_below_drewN | apply below_drew1 | refine below_set ?_ GE101.out) | exact HB.out)⟩
             ·rw [if_neg c61] at H
              have c61b0 : (t149 == t134) = false := beq_eq_false_iff_ne.mpr c61
              have c61b1 : (t149 != t134) = true := bne_iff_ne.mpr c61
              obtain rfl := Option.some.inj H
              go_wp2
              go_ret
              exact ⟨by first | rfl | (simp [errW_none, errW_some] <;> rfl) | (simp [*, errW_none, errW_some] <;> rfl), by repeat (first | (with_reducible first | exact HB.out | apply below_alloc | apply pw_below_drewN | apply below_drew1 | refine below_set ?_ GE101.out) | exact HB.out)⟩
            ·rw [if_neg c60] at H
             have c60b0 : (t134 == 4) = false := beq_eq_false_iff_ne.mpr c60
             have c60b1 : (t134 != 4) = true := bne_iff_ne.mpr c60
             obtain rfl := Option.some.inj H
             go_wp2
             go_ret
             exact ⟨by first | rfl | (simp [errW_none, errW_some] <;> rfl) | (simp [*, errW_none, errW_some] <;> rfl), by repeat (first | (with_reducible first | exact HB.out | apply below_alloc | apply pw_below_drewN | apply below_drew1 | refine below_set ?_ GE101.out) | exact HB.out)⟩
          ·rw [if_neg c57] at H
           have c57b0 : (t119 == 3) = false := beq_eq_false_iff_ne.mpr c57
           have c57b1 : (t119 != 3) = true := bne_iff_ne.mpr c57
           by_cases c62 : t149 = t134
           ·rw [if_pos c62] at H
            have c62b0 : (t149 == t134) = true := beq_iff_eq.mpr c62
            have c62b1 : (t149 != t134) = false := bne_eq_false_iff_eq.mpr c62
            clear c62
            obtain rfl := Option.some.inj H
            go_wp2
            go_ret
            exact ⟨by first | rfl | (simp [errW_none, errW_some] <;> rfl) | (simp [*, errW_none, errW_some] <;> rfl), by repeat (first | (with_reducible first | exact HB.out | apply below_alloc | apply pw_below_drewN | apply below_drew1 | refine below_set ?_ GE101.out) | exact HB.out)⟩
           ·rw [if_neg c62] at H
            have c62b0 : (t149 == t134) = false := beq_eq_false_iff_ne.mpr c62
            have c62b1 : (t149 != t134) = true := bne_iff_ne.mpr c62
            obtain rfl := Option.some.inj H
            go_wp2
            go_ret
            exact ⟨by first | rfl | (simp [errW_none, errW_some] <;> rfl) | (simp [*, errW_none, errW_some] <;> rfl), by repeat (first | (with_reducible first | exact HB.out | apply below_alloc | apply pw_below_drewN | apply below_drew1 | refine below_set ?_ GE101.out) | exact HB.out)⟩
         ·rw [if_neg c56] at H
          have c56b0 : (t134 == t119) = false := beq_eq_false_iff_ne.mpr c56
          have c56b1 : (t134 != t119) = true := bne_iff_ne.mpr c56
          obtain rfl := Option.some.inj H
          go_wp2
          go_ret
          exact ⟨by first | rfl | (simp [errW_none, errW_some] <;> rfl) | (simp [*, errW_none, errW_some] <;> rfl), by repeat (first | (with_reducible first | exact HB.out | apply below_alloc | apply pw_below_drewN | apply below_drew1 | refine below_set ?_ GE101.out) | exact HB.out)⟩
        ·rw [if_neg c55] at H
         have c55b0 : (t119 == 6) = false := beq_eq_false_iff_ne.mpr c55
         have c55b1 : (t119 != 6) = true := bne_iff_ne.mpr c55
         by_cases c63 : t119 = 4
         ·rw [if_pos c63] at H
          have c63b0 : (t119 == 4) = true := beq_iff_eq.mpr c63
          have c63b1 : (t119 != 4) = false := bne_eq_false_iff_eq.mpr c63
          clear c63
          by_cases c64 : t134 = t119
          ·rw [if_pos c64] at H
           have c64b0 : (t134 == t119) = true := beq_iff_eq.mpr c64
           have c64b1 : (t134 != t119) = false := bne_eq_false_iff_eq.mpr c64
           clear c64
           by_cases c65 : t119 = 3
           ·rw [if_pos c65] at H
            have c65b0 : (t119 == 3) = true := beq_iff_eq.mpr c65
            have c65b1 : (t119 != 3) = false := bne_eq_false_iff_eq.mpr c65
            clear c65
            by_cases c66 : t134 = 5
            ·rw [if_pos c66] at H
             have c66b0 : (t134 == 5) = true := beq_iff_eq.mpr c66
             have c66b1 : (t134 != 5) = false := bne_eq_false_iff_eq.mpr c66
             clear c66
             by_cases c67 : t149 = t134
             ·rw [if_pos c67] at H
              have c67b0 : (t149 == t134) = true := beq_iff_eq.mpr c67
              have c67b1 : (t149 != t134) = false := bne_eq_false_iff_eq.mpr c67
              clear c67
              obtain rfl := Option.some.inj H
              go_wp2
              go_ret
              exact ⟨by first | rfl | (simp [errW_none, errW_some] <;> rfl) | (simp [*, errW_none, errW_some] <;> rfl), by repeat (first | (with_reducible first | exact HB.out | apply below_alloc | apply pw_below_drewN | apply below_drew1 | refine below_set ?_ GE101.out) | exact HB.out)⟩
             ·rw [if_neg c67] at H
              have c67b0 : (t149 == t134) = false := beq_eq_false_iff_ne.mpr c67
              have c67b1 : (t149 != t134) = true := bne_iff_ne.mpr c67
              obtain rfl := Option.some.inj H
              go_wp2
              go_ret
              exact ⟨by first | rfl | (simp [errW_none, errW_some] <;> rfl) | (simp [*, errW_none, errW_some] <;> rfl), by repeat (first | (with_reducible first | exact HB.out | apply below_alloc | apply pw_below_drewN | apply below_drew1 | refine below_set ?_ GE101.out) | exact HB.out)⟩
            ·rw [if_neg c66] at H
             have c66b0 : (t134 == 5) = false := beq_eq_false_iff_ne.mpr c66
             have c66b1 : (t134 != 5) = true := bne_iff_ne.mpr c66
             by_cases c68 : t134 = 4
             ·rw [if_pos c68] at H
              have c68b0 : (t134 == 4) = true := beq_iff_eq.mpr c68
              have c68b1 : (t134 != 4) = false := bne_eq_false_iff_eq.mpr c68
              clear c68
              by_cases c69 : t149 = t134
              ·rw [if_pos c69] at H
               have c69b0 : (t149 == t134) = true := beq_iff_eq.mpr c69
               have c69b1 : (t149 != t134) = false := bne_eq_false_iff_eq.mpr c69
               clear c69
               obtain rfl := Option.some.inj H
               go_wp2
               go_ret
               exact ⟨by first | rfl | (simp [errW_none, errW_some] <;> rfl) | (simp [*, errW_none, errW_some] <;> rfl), by repeat (first | (with_reducible first | exact HB.out | apply below_alloc | apply pw_below_drewN | apply below_drew1 | refine below_set ?_ GE101.out) | exact HB.out)⟩
              ·rw [if_neg c69] at H
               have c69b0 : (t149 == t134) = false := beq_eq_false_iff_ne.mpr c69
               have c69b1 : (t149 != t134) = true := bne_iff_ne.mpr c69
               obtain rfl := Option.some.inj H
               go_wp2
               go_ret
               exact ⟨by first | rfl | (simp [errW_none, errW_some] <;> rfl) | (simp [*, errW_none, errW_some] <;> rfl), by repeat (first | (with_reducible first | exact HB.out | apply below_alloc | apply pw_below_drewN | apply below_drew1 | refine below_set ?_ GE101.out) | exact HB.out)⟩
             ·rw [if_neg c68] at H
              have c68b0 : (t134 == 4) = false := beq_eq_false_iff_ne.mpr c68
              have c68b1 : (t134 != 4) = true := bne_iff_ne.mpr c68
              obtain rfl := Option.some.inj H
              go_wp2
              go_ret
              exact ⟨by first | rfl | (simp [errW_none, errW_some] <;> rfl) | (simp [*, errW_none, errW_some] <;> rfl), by repeat (first | (with_reducible first | exact HB.out | apply below_alloc | apply pw_below_drewN | apply below_drew1 | refine below_set ?_ GE101.out) | exact HB.out)⟩
           ·rw [if_neg c65] at H
            have c65b0 : (t119 == 3) = false := beq_eq_false_iff_ne.mpr c65
            have c65b1 : (t119 != 3) = true := bne_iff_ne.mpr c65
            by_cases c70 : t149 = t134
            ·rw [if_pos c70] at H
             have c70b0 : (t149 == t134) = true := beq_iff_eq.mpr c70
             have c70b1 : (t149 != t134) = false := bne_eq_false_iff_eq.mpr c70
             clear c70
             obtain rfl := Option.some.inj H
             go_wp2
             go_ret
             exact ⟨by first | rfl | (simp [errW_none, errW_some] <;> rfl) | (simp [*, errW_none, errW_some] <;> rfl), by repeat (first | (with_reducible first | exact HB.out | apply below_alloc | apply pw_below_drewN | apply below_drew1 | refine below_set ?_ GE101.out) | exact HB.out)⟩
            ·rw [if_neg c70] at H
             have c70b0 : (t149 == t134) = false := beq_eq_false_iff_ne.mpr c70
             have c70b1 : (t149 != t134) = true := bne_iff_ne.mpr c70
             obtain rfl := Option.some.inj H
             go_wp2
             go_ret
             exact ⟨by first | rfl | (simp [errW_none, errW_some] <;> rfl) | (simp [*, errW_none, errW_some] <;> rfl), by repeat (first | (with_reducible first | exact HB.out | apply below_alloc | apply pw_below_drewN | apply below_drew1 | refine below_set ?_ GE101.out) | exact HB.out)⟩
          ·rw [if_neg c64] at H
           have c64b0 : (t134 == t119) = false := beq_eq_false_iff_ne.mpr c64
           have c64b1 : (t134 != t119) = true := bne_iff_ne.mpr c64
           obtain rfl := Option.some.inj H
           go_wp2
           go_ret
           exact ⟨by first | rfl | (simp [errW_none, errW_some] <;> rfl) | (simp [*, errW_none, errW_some] <;> rfl), by repeat (first | (with_reducible first | exact HB.out | apply below_alloc | apply pw_below_drewN | apply below_drew1 | refine below_set ?_ GE101.out) | exact HB.out)⟩
         ·rw [if_neg c63] at H
          have c63b0 : (t119 == 4) = false := beq_eq_false_iff_ne.mpr c63
          have c63b1 : (t119 != 4) = true := bne_iff_ne.mpr c63
          by_cases c71 : t119 = 3
          ·rw [if_pos c71] at H
           have c71b0 : (t119 == 3) = true := beq_iff_eq.mpr c71
           have c71b1 : (t119 != 3) = false := bne_eq_false_iff_eq.mpr c71
           clear c71
           by_cases c72 : t134 = 5
           ·rw [if_pos c72] at H
            have c72b0 : (t134 == 5) = true := beq_iff_eq.mpr c72
            have c72b1 : (t134 != 5) = false := bne_eq_false_iff_eq.mpr c72
            clear c72
            by_cases c73 : t149 = t134
            ·rw [if_pos c73] at H
             have c73b0 : (t149 == t134) = true := beq_iff_eq.mpr c73
             have c73b1 : (t149 != t134) = false := bne_eq_false_iff_eq.mpr c73
             clear c73
             obtain rfl := Option.some.inj H
             go_wp2
             go_ret
             exact ⟨by first | rfl | (simp [errW_none, errW_some] <;> rfl) | (simp [*, errW_none, errW_some] <;> rfl), by repeat (first | (with_reducible first | exact HB.out | apply below_alloc | apply pw_below_drewN | apply below_drew1 | refine below_set ?_ GE101.out) | exact HB.out)⟩
            ·rw [if_neg c73] at H
             have c73b0 : (t149 == t134) = false := beq_eq_false_iff_ne.mpr c73
             have c73b1 : (t149 != t134) = true := bne_iff_ne.mpr c73
             obtain rfl := Option.some.inj H
             go_wp2
             go_ret
             exact ⟨by first | rfl | (simp [errW_none, errW_some] <;> rfl) | (simp [*, errW_none, errW_some] <;> rfl), by repeat (first | (with_reducible first | exact HB.out | apply below_alloc | apply pw_below_drewN | apply below_drew1 | refine below_set ?_ GE101.out) | exact HB.out)⟩
           ·rw [if_neg c72] at H
            have c72b0 : (t134 == 5) = false := beq_eq_false_iff_ne.mpr c72
            have c72b1 : (t134 != 5) = true := bne_iff_ne.mpr c72
            by_cases c74 : t134 = 4
            ·rw [if_pos c74] at H
             have c74b0 : (t134 == 4) = true := beq_iff_eq.mpr c74
             have c74b1 : (t134 != 4) = false := bne_eq_false_iff_eq.mpr c74
             clear c74
             by_cases c75 : t149 = t134
             ·rw [if_pos c75] at H
              have c75b0 : (t149 == t134) = true := beq_iff_eq.mpr c75
              have c75b1 : (t149 != t134) = false := bne_eq_false_iff_eq.mpr c75
              clear c75
              obtain rfl := Option.some.inj H
              go_wp2
              go_ret
              exact ⟨by first | rfl | (simp [errW_none, errW_some] <;> rfl) | (simp [*, errW_none, errW_some] <;> rfl), by repeat (first | (with_reducible first | exact HB.out | apply below_alloc | apply pw_below_drewN | apply below_drew1 | refine below_set ?_ GE101.out) | exact HB.out)⟩
             ·rw [if_neg c75] at H
              have c75b0 : (t149 == t134) = false := beq_eq_false_iff_ne.mpr c75
              have c75b1 : (t149 != t134) = true := bne_iff_ne.mpr c75
              obtain rfl := Option.some.inj H
              go_wp2
              go_ret
              exact ⟨by first | rfl | (simp [errW_none, errW_some] <;> rfl) | (simp [*, errW_none, errW_some] <;> rfl), by repeat (first | (with_reducible first | exact HB.out | apply below_alloc | apply pw_below_drewN | apply below_drew1 | refine below_set ?_ GE101.out) | exact HB.out)⟩
            ·rw [if_neg c74] at H
             have c74b0 : (t134 == 4) = false := beq_eq_false_iff_ne.mpr c74
             have c74b1 : (t134 != 4) = true := bne_iff_ne.mpr c74
             obtain rfl := Option.some.inj H
             go_wp2
             go_ret
             exact ⟨by first | rfl | (simp [errW_none, errW_some] <;> rfl) | (simp [*, errW_none, errW_some] <;> rfl), by repeat (first | (with_reducible first | exact HB.out | apply below_alloc | apply pw_below_drewN | apply below_drew1 | refine below_set ?_ GE101.out) | exact HB.out)⟩
          ·rw [if_neg c71] at H
           have c71b0 : (t119 == 3) = false := beq_eq_false_iff_ne.mpr c71
           have c71b1 : (t119 != 3) = true := bne_iff_ne.mpr c71
           by_cases c76 : t149 = t134
           ·rw [if_pos c76] at H
            have c76b0 : (t149 == t134) = true := beq_iff_eq.mpr c76
            have c76b1 : (t149 != t134) = false := bne_eq_false_iff_eq.mpr c76
            clear c76
            obtain rfl := Option.some.inj H
            go_wp2
            go_ret
            exact ⟨by first | rfl | (simp [errW_none, errW_some] <;> rfl) | (simp [*, errW_none, errW_some] <;> rfl), by repeat (first | (with_reducible first | exact HB.out | apply below_alloc | apply pw_below_drewN | apply below_drew1 | refine below_set ?_ GE101.out) | exact HB.out)⟩
           ·rw [if_neg c76] at H
            have c76b0 : (t149 == t134) = false := beq_eq_false_iff_ne.mpr c76
            have c76b1 : (t149 != t134) = true := bne_iff_ne.mpr c76
            obtain rfl := Option.some.inj H
            go_wp2
            go_ret
            exact ⟨by first | rfl | (simp [errW_none, errW_some] <;> rfl) | (simp [*, errW_none, errW_some] <;> rfl), by repeat (first | (with_reducible first | exact HB.out | apply below_alloc | apply pw_below_drewN | apply below_drew1 | refine below_set ?_ GE101.out) | exact HB.out)⟩

end Go.Proofs.YtbgojgoejlhgeaaDoor.Pr
