-- PRINTED by print.py (a twelfth state) out of the translation, parted. Not trusted: Lean checks it.
import Derived.Test.YtbgojgoejlhgeaaDoorH4
import Derived.Test.YtbgojgoejlhgeaaDoorG2
namespace Go.Proofs.YtbgojgoejlhgeaaDoor.Pr
open Go.RowKit Go.Proofs.YtbgojgoejlhgeaaDoorW.PrintWords Go.Proofs.YtbgojgoejlhgeaaDoorW.PrintLast Go.Proofs.YtbgojgoejlhgeaaDoorW.PrintMore
attribute [local go_sem] max2_int min2_int max_two min_two max_three min_three max_four min_four
set_option linter.unusedVariables false
set_option linter.unusedSimpArgs false

/-! ### fence_State_wanting: function 38 -/
def fence_State_wanting.f (k : Nat) (a0_0 : Bool) (l0_1 : List (S42)) (l0_2 : List (S42)) (l0_3 : List (S42)) (a0_4 : Bool) (a0_5 : Bool) (a0_6 : Int) (a0_7 : Bool) : Option ((List (S42))) := (ranges_Set_Less.f k l0_1 l0_2).bind fun t120 => ((ranges_Set_Less.f k t120 l0_3).bind fun t123 => (some t123))
theorem fence_State_wanting.mono : ∀ a0 a1 a2 a3 a4 a5 a6 a7 k, LeO (fence_State_wanting.f k a0 a1 a2 a3 a4 a5 a6 a7) (fence_State_wanting.f (k + 1) a0 a1 a2 a3 a4 a5 a6 a7) := by
 intro a0 a1 a2 a3 a4 a5 a6 a7 k
 unfold fence_State_wanting.f
 repeat' first
   | (with_reducible exact ranges_Set_Less.mono _ _ _)
   | (with_reducible exact LeO.refl _)
   | (with_reducible exact LeO.none _)
   | (with_reducible refine LeO.ite ?_ ?_)
   | (with_reducible refine LeO.bind ?_ (fun _ => ?_))
   | exact ranges_Set_Less.mono _ _ _
   | exact LeO.none _
   | refine LeO.ite ?_ ?_
   | refine LeO.bind ?_ (fun _ => ?_)
def fence_State_wanting.T1 : Bool × List (List Nat × List Nat) := (true, [([], []), ([0], [0]), ([], []), ([2], [2]), ([1, 3], [1, 3]), ([], []), ([5], [5]), ([4, 6, 4], [4, 6]), ([7, 7, 0, 1, 2, 3, 4, 5, 6, 7], [7])])
def fence_State_wanting.B1 : List Nat := [0, 1, 0, 4, 15, 0, 32, 127, 255]
theorem fence_State_wanting.tab1 : rtab .any (opsOf Tryd.f38 1) = fence_State_wanting.T1 := by kernel_rfl
theorem fence_State_wanting.bits1 : waitsOk fence_State_wanting.T1.2 fence_State_wanting.B1 = true := by kernel_rfl
set_option maxHeartbeats 8000000 in
set_option maxRecDepth 100000 in
theorem fence_State_wanting.calls (k : Nat) (a0_0 : Bool) (A0_1 : Option Addr) (c0_1 : Nat) (l0_1 : List (S42)) (A0_2 : Option Addr) (c0_2 : Nat) (l0_2 : List (S42)) (A0_3 : Option Addr) (c0_3 : Nat) (l0_3 : List (S42)) (a0_4 : Bool) (a0_5 : Bool) (a0_6 : Int) (a0_7 : Bool) (r : List (S42)) (w : World) (hr0_1 : Kd.C k42 w A0_1 l0_1.length l0_1) (hc0_1 : l0_1.length ≤ c0_1) (hr0_2 : Kd.C k42 w A0_2 l0_2.length l0_2) (hc0_2 : l0_2.length ≤ c0_2) (hr0_3 : Kd.C k42 w A0_3 l0_3.length l0_3) (hc0_3 : l0_3.length ≤ c0_3) (h : fence_State_wanting.f k a0_0 l0_1 l0_2 l0_3 a0_4 a0_5 a0_6 a0_7 = some r) :
  Calls Tryd.prog 38 #[.agg #[.bool a0_0, .slice A0_1 l0_1.length c0_1, .slice A0_2 l0_2.length c0_2, .slice A0_3 l0_3.length c0_3, .bool a0_4, .bool a0_5, .int .i64 a0_6, .bool a0_7]] w fun e w' => ∃ v0_ : Value, e = .returned (.agg #[v0_]) ∧ Kd.R k42 42 w' w.heap.size (fun _ => True) v0_ r ∧ Below w.heap.size w w' := by
 have hu31 := Tryd.underlying31
 have hu29 := Tryd.underlying29
 have HR0_1 := am hr0_1
 have HC0_1 := am hc0_1
 clear hr0_1 hc0_1
 have HR0_2 := am hr0_2
 have HC0_2 := am hc0_2
 clear hr0_2 hc0_2
 have HR0_3 := am hr0_3
 have HC0_3 := am hc0_3
 clear hr0_3 hc0_3
 have HB := am (Below.refl w.heap.size w)
 have H : ((ranges_Set_Less.f k l0_1 l0_2).bind fun t120 => ((ranges_Set_Less.f k t120 l0_3).bind fun t123 => (some t123))) = some r := h
 clear h
 replace H := Option.bind_eq_some_iff.mp H
 obtain ⟨t120, A20, H⟩ := H
 replace H : ((ranges_Set_Less.f k t120 l0_3).bind fun t123 => (some t123)) = some r := H
 have A2 := am A20
 clear A20
 replace H := Option.bind_eq_some_iff.mp H
 obtain ⟨t123, A30, H⟩ := H
 replace H : (some t123) = some r := H
 have A3 := am A30
 clear A30
 obtain rfl := Option.some.inj H
 go_enter Tryd.func38, Tryd.ntmps38
 try go_wp2_with (first | ((with_reducible refine gate_dst (N := 1) rfl ?_); refine box_event ?hg (N := 1) ?hd (cs := #[.bool a0_0, .slice A0_1 l0_1.length c0_1, .slice A0_2 l0_2.length c0_2, .slice A0_3 l0_3.length c0_3, .bool a0_4, .bool a0_5, .int .i64 a0_6, .bool a0_7]) (t := 31) ?hr ?_; (case hd => rfl); (case hg => rfl); (case hr => first | (go_simp; done) | (go_simp; rfl)); intro gb118 hg w4 hbox hb; have n0_ := am (below_step (by repeat (first | (with_reducible first | exact HB.out | apply bal | apply bdn | apply bd1) | exact HB.out)) hb); have n1_ := am (hbox); have n2_ := am ((by rw [hg]; exact (below_size (by repeat (first | (with_reducible first | exact HB.out | apply bal | apply bdn | apply bd1) | exact HB.out))) : w.heap.size ≤ gb118)); have n3_ := am ((by rw [hg]; exact (below_size (by repeat (first | (with_reducible first | exact HB.out | apply bal | apply bdn | apply bd1) | exact HB.out))) : w.heap.size ≤ gb118)); clear HB; have HB := n0_; have BK118 := n1_; have GW118 := n2_; have GE118 := n3_; clear n0_ n1_ n2_ n3_; clear hb hbox hg) | ((with_reducible refine gate_dst (N := 2) rfl ?_); refine box_event ?hg (N := 2) ?hd (cs := #[.slice none 0 0]) (t := 29) ?hr ?_; (case hd => rfl); (case hg => rfl); (case hr => first | (go_simp; done) | (go_simp; rfl)); intro gb119 hg w5 hbox hb; have n0_ := am (blk_below (g := gb118) (o := .cells #[.bool a0_0, .slice A0_1 l0_1.length c0_1, .slice A0_2 l0_2.length c0_2, .slice A0_3 l0_3.length c0_3, .bool a0_4, .bool a0_5, .int .i64 a0_6, .bool a0_7] 31 (0, 0)) (by (with_reducible repeat (first | refine kdn ?_ _ | refine kdr ?_ | refine kal ?_ _)); exact BK118.out) hb); have n1_ := am (below_step (by repeat (first | (with_reducible first | exact HB.out | apply bal | apply bdn | apply bd1 | refine bst ?_ GE118.out) | exact HB.out)) hb); have n2_ := am (hbox); have n3_ := am ((by rw [hg]; exact (below_size (by repeat (first | (with_reducible first | exact HB.out | apply bal | apply bdn | apply bd1 | refine bst ?_ GE118.out) | exact HB.out))) : w.heap.size ≤ gb119)); have n4_ := am ((by rw [hg]; exact (below_size (by repeat (first | (with_reducible first | exact HB.out | apply bal | apply bdn | apply bd1 | refine bst ?_ GE118.out) | exact HB.out))) : w.heap.size ≤ gb119)); have n5_ := am ((by rw [hg]; exact Nat.ne_of_lt (blk_lt (g := gb118) (o := .cells #[.bool a0_0, .slice A0_1 l0_1.length c0_1, .slice A0_2 l0_2.length c0_2, .slice A0_3 l0_3.length c0_3, .bool a0_4, .bool a0_5, .int .i64 a0_6, .bool a0_7] 31 (0, 0)) (by (with_reducible repeat (first | refine kdn ?_ _ | refine kdr ?_ | refine kal ?_ _)); exact BK118.out)) : gb118 ≠ gb119)); have n6_ := am ((by rw [hg]; exact Nat.ne_of_gt (blk_lt (g := gb118) (o := .cells #[.bool a0_0, .slice A0_1 l0_1.length c0_1, .slice A0_2 l0_2.length c0_2, .slice A0_3 l0_3.length c0_3, .bool a0_4, .bool a0_5, .int .i64 a0_6, .bool a0_7] 31 (0, 0)) (by (with_reducible repeat (first | refine kdn ?_ _ | refine kdr ?_ | refine kal ?_ _)); exact BK118.out)) : gb119 ≠ gb118)); clear BK118; clear HB; have BK118 := n0_; have HB := n1_; have BK119 := n2_; have GW119 := n3_; have GE119 := n4_; have NB118_119 := n5_; have NB119_118 := n6_; clear n0_ n1_ n2_ n3_ n4_ n5_ n6_; clear hb hbox hg))
 have n0_ := am (kdr BK118.out)
 have n1_ := am (kdr BK119.out)
 have n2_ := am (bd1 HB.out)
 clear BK118
 clear BK119
 clear HB
 have BK118 := n0_
 have BK119 := n1_
 have HB := n2_
 clear n0_ n1_ n2_
 refine start_ (n := 9) (S := fun w' => w'.cell? ⟨gb118, 0, none⟩ = some (.bool a0_0) ∧ w'.cell? ⟨gb118, 1, none⟩ = some (.slice A0_1 l0_1.length c0_1) ∧ w'.cell? ⟨gb118, 2, none⟩ = some (.slice A0_2 l0_2.length c0_2) ∧ w'.cell? ⟨gb118, 3, none⟩ = some (.slice A0_3 l0_3.length c0_3) ∧ w'.cell? ⟨gb118, 4, none⟩ = some (.bool a0_4) ∧ w'.cell? ⟨gb118, 5, none⟩ = some (.bool a0_5) ∧ w'.cell? ⟨gb118, 6, none⟩ = some (.int .i64 a0_6) ∧ w'.cell? ⟨gb118, 7, none⟩ = some (.bool a0_7)) (ds := []) #[false, false, false, false, false, false, false, false, false] (by kernel_rfl) rfl rfl ⟨(bcl BK118.out 0).trans rfl, (bcl BK118.out 1).trans rfl, (bcl BK118.out 2).trans rfl, (bcl BK118.out 3).trans rfl, (bcl BK118.out 4).trans rfl, (bcl BK118.out 5).trans rfl, (bcl BK118.out 6).trans rfl, (bcl BK118.out 7).trans rfl⟩ (fun hHeld => ?_); refine with_tabW fence_State_wanting.tab1 fence_State_wanting.bits1 (fun HT_ HW_ => ?_)
 generalize w5.drew = w6 at BK118 BK119 HB hHeld ⊢
 refine pure_ (i := 0) (N := some 3) (v := ?_) (a' := ?_) #[true, false, false, false, false, false, false, false, false] rfl rfl (any_of HT_.out (by kernel_rfl)) (fun _ _ _ h => h) (Or.inl ⟨by rfl, ?_⟩) ?_ ?_
 rotate_left
 ·intro w'
  go_simp
  with_reducible rfl
 rotate_left
 ·simp only [Act.put, sb1, sb2, sb3, i64_w, i32_w]
  rfl
 refine pure_ (i := 2) (N := some 5) (v := ?_) (a' := ?_) #[true, false, true, false, false, false, false, false, false] rfl rfl (any_of HT_.out (by kernel_rfl)) (fun _ _ _ h => h) (Or.inl ⟨by rfl, ?_⟩) ?_ ?_
 rotate_left
 ·intro w'
  go_simp
  with_reducible rfl
 rotate_left
 ·simp only [Act.put, sb1, sb2, sb3, i64_w, i32_w]
  rfl
 refine pure_ (i := 5) (N := some 8) (v := ?_) (a' := ?_) #[true, false, true, false, false, true, false, false, false] rfl rfl (any_of HT_.out (by kernel_rfl)) (fun _ _ _ h => h) (Or.inl ⟨by rfl, ?_⟩) ?_ ?_
 rotate_left
 ·intro w'
  go_simp
  with_reducible rfl
 rotate_left
 ·simp only [Act.put, sb1, sb2, sb3, i64_w, i32_w]
  rfl
 refine take_ (i := 1) (N := some 4) (v := ?_) (a' := ?_) #[true, true, true, false, false, true, false, false, false] rfl rfl (take_ofW HT_.out HW_.out (by kernel_rfl)) (fun _ _ _ h => h) (Or.inl ⟨by rfl, ?_⟩) hHeld ?_ ?_
 rotate_left
 ·rintro w' ⟨s0, s1, s2, s3, s4, s5, s6, s7⟩
  go_simp
  with_reducible rfl
 rotate_left
 ·simp only [Act.put, sb1, sb2, sb3, i64_w, i32_w]
  rfl
 refine take_ (i := 3) (N := some 6) (v := ?_) (a' := ?_) #[true, true, true, true, false, true, false, false, false] rfl rfl (take_ofW HT_.out HW_.out (by kernel_rfl)) (fun _ _ _ h => h) (Or.inl ⟨by rfl, ?_⟩) hHeld ?_ ?_
 rotate_left
 ·rintro w' ⟨s0, s1, s2, s3, s4, s5, s6, s7⟩
  go_simp
  with_reducible rfl
 rotate_left
 ·simp only [Act.put, sb1, sb2, sb3, i64_w, i32_w]
  rfl
 refine take_ (i := 6) (N := some 9) (v := ?_) (a' := ?_) #[true, true, true, true, false, true, true, false, false] rfl rfl (take_ofW HT_.out HW_.out (by kernel_rfl)) (fun _ _ _ h => h) (Or.inl ⟨by rfl, ?_⟩) hHeld ?_ ?_
 rotate_left
 ·rintro w' ⟨s0, s1, s2, s3, s4, s5, s6, s7⟩
  go_simp
  with_reducible rfl
 rotate_left
 ·simp only [Act.put, sb1, sb2, sb3, i64_w, i32_w]
  rfl
 refine one_ (i := 4) (N := some 7) #[true, true, true, true, true, true, true, false, false] rfl rfl (one_of HT_.out (by kernel_rfl)) (by decide) (fun K hK => ?_)
 refine goes_ Tryd.func30 (by kernel_rfl) rfl #[.agg #[.slice A0_1 l0_1.length c0_1], .agg #[.slice A0_2 l0_2.length c0_2]] (by rfl) rfl rfl (by (try simp only [List.map_toArray, List.map_cons, List.map_nil]); first | done | rfl | (simp only [List.length_drop, List.length_take]; rfl)) ?_
 with_reducible refine (ranges_Set_Less.calls k _ _ l0_1 _ _ l0_2 t120 _ ?side1 ?side2 ?side3 ?side4 A2.out).mono ?_
 (case side1 => repeat (first | exact (Kd.C_below HR0_1.out HB.out) | (with_reducible refine Kd.C_alloc ?_ _) | (with_reducible refine Kd.C_drewN ?_ _) | (with_reducible refine Kd.C_drew ?_)))
 (case side2 => exact HC0_1.out)
 (case side3 => repeat (first | exact (Kd.C_below HR0_2.out HB.out) | (with_reducible refine Kd.C_alloc ?_ _) | (with_reducible refine Kd.C_drewN ?_ _) | (with_reducible refine Kd.C_drew ?_)))
 (case side4 => exact HC0_2.out)
 rintro e w7 ⟨v121, rfl, ho0, hb⟩
 refine ⟨_, rfl, ?_⟩
 have n0_ := am (Kd.R_lower ho0 (below_size (by repeat (first | (with_reducible first | exact HB.out | apply bal | apply bdn | apply bd1 | refine bst ?_ GE118.out | refine bst ?_ GE119.out) | exact HB.out))))
 have n1_ := am (blk_below (g := gb118) (o := .cells #[.bool a0_0, .slice A0_1 l0_1.length c0_1, .slice A0_2 l0_2.length c0_2, .slice A0_3 l0_3.length c0_3, .bool a0_4, .bool a0_5, .int .i64 a0_6, .bool a0_7] 31 (0, 0)) (by (with_reducible repeat (first | refine kdn ?_ _ | refine kdr ?_ | refine kal ?_ _)); exact BK118.out) hb)
 have n2_ := am (blk_below (g := gb119) (o := .cells #[.slice none 0 0] 29 (0, 0)) (by (with_reducible repeat (first | refine kdn ?_ _ | refine kdr ?_ | refine kal ?_ _)); exact BK119.out) hb)
 have n3_ := am (below_step (by repeat (first | (with_reducible first | exact HB.out | apply bal | apply bdn | apply bd1 | refine bst ?_ GE118.out | refine bst ?_ GE119.out) | exact HB.out)) hb)
 clear BK118
 clear BK119
 clear HB
 have HO122 := n0_
 have BK118 := n1_
 have BK119 := n2_
 have HB := n3_
 clear n0_ n1_ n2_ n3_
 (try clear hb)
 (try clear hb2)
 (try clear hk)
 (try clear hi)
 (try clear ho0)
 obtain ⟨Ao8, co8, eo8⟩ := Kd.R_slice HO122.out
 (first | subst eo8 | (injection eo8 with f1_ f2_ f3_; have f4_ := f1_.symm; have f5_ := f3_.symm; clear f1_ f2_ f3_; subst f4_; subst f5_))
 refine hK.out _ _ ⟨(bcl BK118.out 0).trans rfl, (bcl BK118.out 1).trans rfl, (bcl BK118.out 2).trans rfl, (bcl BK118.out 3).trans rfl, (bcl BK118.out 4).trans rfl, (bcl BK118.out 5).trans rfl, (bcl BK118.out 6).trans rfl, (bcl BK118.out 7).trans rfl⟩ (fun hHeld => ?_)
 clear hK K
 refine norm_ (a' := ?_) ?_ ?_
 rotate_left
 ·show Act.put _ (some 7) _ = _
  simp only [Act.put, sb1, sb2, sb3, i64_w, i32_w]
  rfl
 refine one_ (i := 7) (N := some 10) #[true, true, true, true, true, true, true, true, false] rfl rfl (one_of HT_.out (by kernel_rfl)) (by decide) (fun K hK => ?_)
 refine goes_ Tryd.func30 (by kernel_rfl) rfl #[.agg #[.slice Ao8 t120.length co8], .agg #[.slice A0_3 l0_3.length c0_3]] (by rfl) rfl rfl (by (try simp only [List.map_toArray, List.map_cons, List.map_nil]); first | done | rfl | (simp only [List.length_drop, List.length_take]; rfl)) ?_
 with_reducible refine (ranges_Set_Less.calls k _ _ t120 _ _ l0_3 t123 _ ?side1 ?side2 ?side3 ?side4 A3.out).mono ?_
 (case side1 => repeat (first | exact (Kd.R_reads' HO122.out).2.2 | (with_reducible refine Kd.C_alloc ?_ _) | (with_reducible refine Kd.C_drewN ?_ _) | (with_reducible refine Kd.C_drew ?_)))
 (case side2 => exact (Kd.R_reads' HO122.out).2.1)
 (case side3 => repeat (first | exact (Kd.C_below HR0_3.out HB.out) | (with_reducible refine Kd.C_alloc ?_ _) | (with_reducible refine Kd.C_drewN ?_ _) | (with_reducible refine Kd.C_drew ?_)))
 (case side4 => exact HC0_3.out)
 rintro e w9 ⟨v124, rfl, ho0, hb⟩
 refine ⟨_, rfl, ?_⟩
 have n0_ := am (Kd.R_elder' (by (with_reducible repeat (first | apply Kd.R_alloc | apply Kd.R_drewN | apply Kd.R_drew)); exact HO122.out) (Kd.R_base ho0) hb)
 have n1_ := am (Kd.R_lower (Kd.R_new' ho0 (Kd.R_lt (by (with_reducible repeat (first | apply Kd.R_alloc | apply Kd.R_drewN | apply Kd.R_drew)); exact HO122.out))) (below_size (by repeat (first | (with_reducible first | exact HB.out | apply bal | apply bdn | apply bd1 | refine bst ?_ GE118.out | refine bst ?_ GE119.out) | exact HB.out))))
 have n2_ := am (blk_below (g := gb118) (o := .cells #[.bool a0_0, .slice A0_1 l0_1.length c0_1, .slice A0_2 l0_2.length c0_2, .slice A0_3 l0_3.length c0_3, .bool a0_4, .bool a0_5, .int .i64 a0_6, .bool a0_7] 31 (0, 0)) (by (with_reducible repeat (first | refine kdn ?_ _ | refine kdr ?_ | refine kal ?_ _)); exact BK118.out) hb)
 have n3_ := am (blk_below (g := gb119) (o := .cells #[.slice none 0 0] 29 (0, 0)) (by (with_reducible repeat (first | refine kdn ?_ _ | refine kdr ?_ | refine kal ?_ _)); exact BK119.out) hb)
 have n4_ := am (below_step (by repeat (first | (with_reducible first | exact HB.out | apply bal | apply bdn | apply bd1 | refine bst ?_ GE118.out | refine bst ?_ GE119.out) | exact HB.out)) hb)
 clear HO122
 clear BK118
 clear BK119
 clear HB
 have HO122 := n0_
 have HO125 := n1_
 have BK118 := n2_
 have BK119 := n3_
 have HB := n4_
 clear n0_ n1_ n2_ n3_ n4_
 (try clear hb)
 (try clear hb2)
 (try clear hk)
 (try clear hi)
 (try clear ho0)
 obtain ⟨Ao10, co10, eo10⟩ := Kd.R_slice HO125.out
 (first | subst eo10 | (injection eo10 with f1_ f2_ f3_; have f4_ := f1_.symm; have f5_ := f3_.symm; clear f1_ f2_ f3_; subst f4_; subst f5_))
 refine hK.out _ _ ⟨(bcl BK118.out 0).trans rfl, (bcl BK118.out 1).trans rfl, (bcl BK118.out 2).trans rfl, (bcl BK118.out 3).trans rfl, (bcl BK118.out 4).trans rfl, (bcl BK118.out 5).trans rfl, (bcl BK118.out 6).trans rfl, (bcl BK118.out 7).trans rfl⟩ (fun hHeld => ?_)
 clear hK K
 refine norm_ (a' := ?_) ?_ ?_
 rotate_left
 ·show Act.put _ (some 10) _ = _
  simp only [Act.put, sb1, sb2, sb3, i64_w, i32_w]
  rfl
 refine one_ (i := 8) (N := none) #[true, true, true, true, true, true, true, true, true] rfl rfl (one_of HT_.out (by kernel_rfl)) (by decide) (fun K hK => ?_)
 have hs11 : w9.cell? ⟨gb119, 0, none⟩ = some (.slice none 0 0) := (bcl BK119.out 0).trans rfl
 have hfs11 := bfz BK119.out 0
 have hns11_0 := NB118_119.out
 have hms11_0 := NB119_118.out
 refine skip_ (w1 := ?_) (by rfl) rfl ?_ ?_
 rotate_left
 ·go_simp
  rfl
 refine hK.out _ _ ⟨((cell_far (p := ⟨gb119, _, none⟩) NB118_119.out _).trans (hHeld.1)), ((cell_far (p := ⟨gb119, _, none⟩) NB118_119.out _).trans (hHeld.2.1)), ((cell_far (p := ⟨gb119, _, none⟩) NB118_119.out _).trans (hHeld.2.2.1)), ((cell_far (p := ⟨gb119, _, none⟩) NB118_119.out _).trans (hHeld.2.2.2.1)), ((cell_far (p := ⟨gb119, _, none⟩) NB118_119.out _).trans (hHeld.2.2.2.2.1)), ((cell_far (p := ⟨gb119, _, none⟩) NB118_119.out _).trans (hHeld.2.2.2.2.2.1)), ((cell_far (p := ⟨gb119, _, none⟩) NB118_119.out _).trans (hHeld.2.2.2.2.2.2.1)), ((cell_far (p := ⟨gb119, _, none⟩) NB118_119.out _).trans (hHeld.2.2.2.2.2.2.2))⟩ (fun hHeld => ?_)
 clear hK K
 refine done_ (done_of HT_.out (by kernel_rfl)) ?_
 try go_wp2
 refine bodyPost_ret (results_cell_row rfl _ _ gb119 29 #[.slice Ao10 t123.length co10] (0, 0) _ rfl (by (with_reducible repeat (first | refine kdn ?_ _ | refine kdr ?_ | refine kal ?_ _)); refine blk_put (cs := #[.slice none 0 0]) ?_ 0 _ rfl; (with_reducible repeat (first | refine kdn ?_ _ | refine kdr ?_ | refine kal ?_ _)); exact BK119.out) Tryd.underlying29 rfl (by kernel_rfl)) rfl ?_
 exact ⟨_, by first | rfl | (simp [errW_none, errW_some] <;> rfl) | (simp [*, errW_none, errW_some] <;> rfl), by (with_reducible repeat (first | apply Kd.R_alloc | apply Kd.R_drewN | apply Kd.R_drew)); exact Kd.R_mono (Kd.R_far (p := ⟨gb119, 0, none⟩) (Kd.R_types HO125.out BK119.out (by decide)) (fun _ hk => hk.2) (.slice Ao10 t123.length co10)) (fun _ hk => trivial), by repeat (first | (with_reducible first | exact HB.out | apply bal | apply bdn | apply bd1 | refine bst ?_ GE118.out | refine bst ?_ GE119.out) | exact HB.out)⟩

/-! ### fence_Lost: function 19 -/
def fence_Lost.f (k : Nat) (a0_0 : Bool) (l0_1 : List (S42)) (l0_2 : List (S42)) (l0_3 : List (S42)) (a0_4 : Bool) (a0_5 : Bool) (a0_6 : Int) (a0_7 : Bool) : Option ((List (S42))) := if a0_4 = true then ((fence_State_wanting.f k a0_0 l0_1 l0_2 l0_3 a0_4 a0_5 a0_6 a0_7).bind fun t128 => (some t128)) else (if a0_5 = true then ((fence_State_wanting.f k a0_0 l0_1 l0_2 l0_3 a0_4 a0_5 a0_6 a0_7).bind fun t131 => (some t131)) else (if a0_7 = true then (some ([] : List (S42))) else ((fence_State_wanting.f k a0_0 l0_1 l0_2 l0_3 a0_4 a0_5 a0_6 a0_7).bind fun t134 => (some t134))))
theorem fence_Lost.mono : ∀ a0 a1 a2 a3 a4 a5 a6 a7 k, LeO (fence_Lost.f k a0 a1 a2 a3 a4 a5 a6 a7) (fence_Lost.f (k + 1) a0 a1 a2 a3 a4 a5 a6 a7) := by
 intro a0 a1 a2 a3 a4 a5 a6 a7 k
 unfold fence_Lost.f
 repeat' first
   | (with_reducible exact fence_State_wanting.mono _ _ _ _ _ _ _ _ _)
   | (with_reducible exact LeO.refl _)
   | (with_reducible exact LeO.none _)
   | (with_reducible refine LeO.ite ?_ ?_)
   | (with_reducible refine LeO.bind ?_ (fun _ => ?_))
   | exact fence_State_wanting.mono _ _ _ _ _ _ _ _ _
   | exact LeO.none _
   | refine LeO.ite ?_ ?_
   | refine LeO.bind ?_ (fun _ => ?_)
set_option maxHeartbeats 8000000 in
set_option maxRecDepth 100000 in
theorem fence_Lost.calls (k : Nat) (a0_0 : Bool) (A0_1 : Option Addr) (c0_1 : Nat) (l0_1 : List (S42)) (A0_2 : Option Addr) (c0_2 : Nat) (l0_2 : List (S42)) (A0_3 : Option Addr) (c0_3 : Nat) (l0_3 : List (S42)) (a0_4 : Bool) (a0_5 : Bool) (a0_6 : Int) (a0_7 : Bool) (r : List (S42)) (w : World) (hr0_1 : Kd.C k42 w A0_1 l0_1.length l0_1) (hc0_1 : l0_1.length ≤ c0_1) (hr0_2 : Kd.C k42 w A0_2 l0_2.length l0_2) (hc0_2 : l0_2.length ≤ c0_2) (hr0_3 : Kd.C k42 w A0_3 l0_3.length l0_3) (hc0_3 : l0_3.length ≤ c0_3) (h : fence_Lost.f k a0_0 l0_1 l0_2 l0_3 a0_4 a0_5 a0_6 a0_7 = some r) :
  Calls Tryd.prog 19 #[.agg #[.bool a0_0, .slice A0_1 l0_1.length c0_1, .slice A0_2 l0_2.length c0_2, .slice A0_3 l0_3.length c0_3, .bool a0_4, .bool a0_5, .int .i64 a0_6, .bool a0_7]] w fun e w' => ∃ v0_ : Value, e = .returned (.agg #[v0_]) ∧ Kd.R k42 42 w' w.heap.size (fun _ => True) v0_ r ∧ Below w.heap.size w w' := by
 have hu31 := Tryd.underlying31
 have hu29 := Tryd.underlying29
 have HR0_1 := am hr0_1
 have HC0_1 := am hc0_1
 clear hr0_1 hc0_1
 have HR0_2 := am hr0_2
 have HC0_2 := am hc0_2
 clear hr0_2 hc0_2
 have HR0_3 := am hr0_3
 have HC0_3 := am hc0_3
 clear hr0_3 hc0_3
 have HB := am (Below.refl w.heap.size w)
 have H : (if a0_4 = true then ((fence_State_wanting.f k a0_0 l0_1 l0_2 l0_3 a0_4 a0_5 a0_6 a0_7).bind fun t128 => (some t128)) else (if a0_5 = true then ((fence_State_wanting.f k a0_0 l0_1 l0_2 l0_3 a0_4 a0_5 a0_6 a0_7).bind fun t131 => (some t131)) else (if a0_7 = true then (some ([] : List (S42))) else ((fence_State_wanting.f k a0_0 l0_1 l0_2 l0_3 a0_4 a0_5 a0_6 a0_7).bind fun t134 => (some t134))))) = some r := h
 clear h
 by_cases c2 : a0_4 = true
 ·subst c2
  have H1 : ((fence_State_wanting.f k a0_0 l0_1 l0_2 l0_3 true a0_5 a0_6 a0_7).bind fun t128 => (some t128)) = some r := by rw [if_pos rfl] at H; exact H
  clear H
  have H := H1
  clear H1
  replace H := Option.bind_eq_some_iff.mp H
  obtain ⟨t128, A30, H⟩ := H
  replace H : (some t128) = some r := H
  have A3 := am A30
  clear A30
  obtain rfl := Option.some.inj H
  go_enter Tryd.func19, Tryd.ntmps19
  go_wp2_with (first | ((with_reducible refine gate_dst (N := 1) rfl ?_); refine box_event ?hg (N := 1) ?hd (cs := #[.bool a0_0, .slice A0_1 l0_1.length c0_1, .slice A0_2 l0_2.length c0_2, .slice A0_3 l0_3.length c0_3, .bool true, .bool a0_5, .int .i64 a0_6, .bool a0_7]) (t := 31) ?hr ?_; (case hd => rfl); (case hg => rfl); (case hr => first | (go_simp; done) | (go_simp; rfl)); intro gb126 hg w4 hbox hb; have n0_ := am (below_step (by repeat (first | (with_reducible first | exact HB.out | apply bal | apply bdn | apply bd1) | exact HB.out)) hb); have n1_ := am (hbox); have n2_ := am ((by rw [hg]; exact (below_size (by repeat (first | (with_reducible first | exact HB.out | apply bal | apply bdn | apply bd1) | exact HB.out))) : w.heap.size ≤ gb126)); have n3_ := am ((by rw [hg]; exact (below_size (by repeat (first | (with_reducible first | exact HB.out | apply bal | apply bdn | apply bd1) | exact HB.out))) : w.heap.size ≤ gb126)); clear HB; have HB := n0_; have BK126 := n1_; have GW126 := n2_; have GE126 := n3_; clear n0_ n1_ n2_ n3_; clear hb hbox hg) | ((with_reducible refine gate_dst (N := 2) rfl ?_); refine box_event ?hg (N := 2) ?hd (cs := #[.slice none 0 0]) (t := 29) ?hr ?_; (case hd => rfl); (case hg => rfl); (case hr => first | (go_simp; done) | (go_simp; rfl)); intro gb127 hg w5 hbox hb; have n0_ := am (blk_below (g := gb126) (o := .cells #[.bool a0_0, .slice A0_1 l0_1.length c0_1, .slice A0_2 l0_2.length c0_2, .slice A0_3 l0_3.length c0_3, .bool true, .bool a0_5, .int .i64 a0_6, .bool a0_7] 31 (0, 0)) (by (with_reducible repeat (first | refine kdn ?_ _ | refine kdr ?_ | refine kal ?_ _)); exact BK126.out) hb); have n1_ := am (below_step (by repeat (first | (with_reducible first | exact HB.out | apply bal | apply bdn | apply bd1 | refine bst ?_ GE126.out) | exact HB.out)) hb); have n2_ := am (hbox); have n3_ := am ((by rw [hg]; exact (below_size (by repeat (first | (with_reducible first | exact HB.out | apply bal | apply bdn | apply bd1 | refine bst ?_ GE126.out) | exact HB.out))) : w.heap.size ≤ gb127)); have n4_ := am ((by rw [hg]; exact (below_size (by repeat (first | (with_reducible first | exact HB.out | apply bal | apply bdn | apply bd1 | refine bst ?_ GE126.out) | exact HB.out))) : w.heap.size ≤ gb127)); have n5_ := am ((by rw [hg]; exact Nat.ne_of_lt (blk_lt (g := gb126) (o := .cells #[.bool a0_0, .slice A0_1 l0_1.length c0_1, .slice A0_2 l0_2.length c0_2, .slice A0_3 l0_3.length c0_3, .bool true, .bool a0_5, .int .i64 a0_6, .bool a0_7] 31 (0, 0)) (by (with_reducible repeat (first | refine kdn ?_ _ | refine kdr ?_ | refine kal ?_ _)); exact BK126.out)) : gb126 ≠ gb127)); have n6_ := am ((by rw [hg]; exact Nat.ne_of_gt (blk_lt (g := gb126) (o := .cells #[.bool a0_0, .slice A0_1 l0_1.length c0_1, .slice A0_2 l0_2.length c0_2, .slice A0_3 l0_3.length c0_3, .bool true, .bool a0_5, .int .i64 a0_6, .bool a0_7] 31 (0, 0)) (by (with_reducible repeat (first | refine kdn ?_ _ | refine kdr ?_ | refine kal ?_ _)); exact BK126.out)) : gb127 ≠ gb126)); clear BK126; clear HB; have BK126 := n0_; have HB := n1_; have BK127 := n2_; have GW127 := n3_; have GE127 := n4_; have NB126_127 := n5_; have NB127_126 := n6_; clear n0_ n1_ n2_ n3_ n4_ n5_ n6_; clear hb hbox hg; have hnb6 := NB126_127.out; have hnc6 := NB127_126.out; have hcz7_0 : w5.cell? ⟨gb126, 0, none⟩ = some (.bool a0_0) := (bcl BK126.out 0).trans rfl; have hcz7_1 : w5.cell? ⟨gb126, 1, none⟩ = some (.slice A0_1 l0_1.length c0_1) := (bcl BK126.out 1).trans rfl; have hcz7_2 : w5.cell? ⟨gb126, 2, none⟩ = some (.slice A0_2 l0_2.length c0_2) := (bcl BK126.out 2).trans rfl; have hcz7_3 : w5.cell? ⟨gb126, 3, none⟩ = some (.slice A0_3 l0_3.length c0_3) := (bcl BK126.out 3).trans rfl; have hcz7_4 : w5.cell? ⟨gb126, 4, none⟩ = some (.bool true) := (bcl BK126.out 4).trans rfl; have hcz7_5 : w5.cell? ⟨gb126, 5, none⟩ = some (.bool a0_5) := (bcl BK126.out 5).trans rfl; have hcz7_6 : w5.cell? ⟨gb126, 6, none⟩ = some (.int .i64 a0_6) := (bcl BK126.out 6).trans rfl; have hcz7_7 : w5.cell? ⟨gb126, 7, none⟩ = some (.bool a0_7) := (bcl BK126.out 7).trans rfl; have hfz7_0 := bfz BK126.out 0; have hfz7_1 := bfz BK126.out 1; have hfz7_2 := bfz BK126.out 2; have hfz7_3 := bfz BK126.out 3; have hfz7_4 := bfz BK126.out 4; have hfz7_5 := bfz BK126.out 5; have hfz7_6 := bfz BK126.out 6; have hfz7_7 := bfz BK126.out 7) | ((with_reducible refine gate_callee (f := 38) rfl ?_); refine goesL_ (some 15) rfl rfl Tryd.func38 (by kernel_rfl) rfl #[.agg #[.bool a0_0, .slice A0_1 l0_1.length c0_1, .slice A0_2 l0_2.length c0_2, .slice A0_3 l0_3.length c0_3, .bool true, .bool a0_5, .int .i64 a0_6, .bool a0_7]] rfl (by (try simp only [List.map_toArray, List.map_cons, List.map_nil]); first | done | rfl | (simp only [List.length_drop, List.length_take]; rfl)) ?_; (with_reducible refine (fence_State_wanting.calls k a0_0 _ _ l0_1 _ _ l0_2 _ _ l0_3 true a0_5 a0_6 a0_7 t128 _ ?side1 ?side2 ?side3 ?side4 ?side5 ?side6 A3.out).mono ?_); (case side1 => repeat (first | exact (Kd.C_below HR0_1.out HB.out) | (with_reducible refine Kd.C_alloc ?_ _) | (with_reducible refine Kd.C_drewN ?_ _) | (with_reducible refine Kd.C_drew ?_))); (case side2 => exact HC0_1.out); (case side3 => repeat (first | exact (Kd.C_below HR0_2.out HB.out) | (with_reducible refine Kd.C_alloc ?_ _) | (with_reducible refine Kd.C_drewN ?_ _) | (with_reducible refine Kd.C_drew ?_))); (case side4 => exact HC0_2.out); (case side5 => repeat (first | exact (Kd.C_below HR0_3.out HB.out) | (with_reducible refine Kd.C_alloc ?_ _) | (with_reducible refine Kd.C_drewN ?_ _) | (with_reducible refine Kd.C_drew ?_))); (case side6 => exact HC0_3.out); rintro e w8 ⟨v129, rfl, ho0, hb⟩; refine ⟨_, rfl, ?_⟩; have n0_ := am (Kd.R_lower ho0 (below_size (by repeat (first | (with_reducible first | exact HB.out | apply bal | apply bdn | apply bd1 | refine bst ?_ GE126.out | refine bst ?_ GE127.out) | exact HB.out)))); have n1_ := am (blk_below (g := gb126) (o := .cells #[.bool a0_0, .slice A0_1 l0_1.length c0_1, .slice A0_2 l0_2.length c0_2, .slice A0_3 l0_3.length c0_3, .bool true, .bool a0_5, .int .i64 a0_6, .bool a0_7] 31 (0, 0)) (by (with_reducible repeat (first | refine kdn ?_ _ | refine kdr ?_ | refine kal ?_ _)); exact BK126.out) hb); have n2_ := am (blk_below (g := gb127) (o := .cells #[.slice none 0 0] 29 (0, 0)) (by (with_reducible repeat (first | refine kdn ?_ _ | refine kdr ?_ | refine kal ?_ _)); exact BK127.out) hb); have n3_ := am (below_step (by repeat (first | (with_reducible first | exact HB.out | apply bal | apply bdn | apply bd1 | refine bst ?_ GE126.out | refine bst ?_ GE127.out) | exact HB.out)) hb); clear BK126; clear BK127; clear HB; have HO130 := n0_; have BK126 := n1_; have BK127 := n2_; have HB := n3_; clear n0_ n1_ n2_ n3_; (try clear hb); (try clear hb2); (try clear hk); (try clear hi); (try clear ho0); obtain ⟨Ao9, co9, eo9⟩ := Kd.R_slice HO130.out; subst eo9; have hcz10_0 : w8.cell? ⟨gb127, 0, none⟩ = some (.slice none 0 0) := (bcl BK127.out 0).trans rfl; have hfz10_0 := bfz BK127.out 0))
  refine bodyPost_ret (results_cell_row rfl _ _ gb127 29 #[.slice Ao9 t128.length co9] (0, 0) _ rfl (by (with_reducible repeat (first | refine kdn ?_ _ | refine kdr ?_ | refine kal ?_ _)); refine blk_put (cs := #[.slice none 0 0]) ?_ 0 _ rfl; (with_reducible repeat (first | refine kdn ?_ _ | refine kdr ?_ | refine kal ?_ _)); exact BK127.out) Tryd.underlying29 rfl (by kernel_rfl)) rfl ?_
  exact ⟨_, by first | rfl | (simp [errW_none, errW_some] <;> rfl) | (simp [*, errW_none, errW_some] <;> rfl), by (with_reducible repeat (first | apply Kd.R_alloc | apply Kd.R_drewN | apply Kd.R_drew)); exact Kd.R_mono (Kd.R_far (p := ⟨gb127, 0, none⟩) (Kd.R_types HO130.out BK127.out (by decide)) (fun _ hk => hk.2) (.slice Ao9 t128.length co9)) (fun _ hk => trivial), by repeat (first | (with_reducible first | exact HB.out | apply bal | apply bdn | apply bd1 | refine bst ?_ GE126.out | refine bst ?_ GE127.out) | exact HB.out)⟩
 ·replace c2 := Bool.eq_false_iff.mpr c2
  subst c2
  have H1 : (if a0_5 = true then ((fence_State_wanting.f k a0_0 l0_1 l0_2 l0_3 false a0_5 a0_6 a0_7).bind fun t131 => (some t131)) else (if a0_7 = true then (some ([] : List (S42))) else ((fence_State_wanting.f k a0_0 l0_1 l0_2 l0_3 false a0_5 a0_6 a0_7).bind fun t134 => (some t134)))) = some r := by rw [if_neg (show ¬ (false = true) by decide)] at H; exact H
  clear H
  have H := H1
  clear H1
  by_cases c11 : a0_5 = true
  ·subst c11
   have H1 : ((fence_State_wanting.f k a0_0 l0_1 l0_2 l0_3 false true a0_6 a0_7).bind fun t131 => (some t131)) = some r := by rw [if_pos rfl] at H; exact H
   clear H
   have H := H1
   clear H1
   replace H := Option.bind_eq_some_iff.mp H
   obtain ⟨t131, A120, H⟩ := H
   replace H : (some t131) = some r := H
   have A12 := am A120
   clear A120
   obtain rfl := Option.some.inj H
   go_enter Tryd.func19, Tryd.ntmps19
   go_wp2_with (first | ((with_reducible refine gate_dst (N := 1) rfl ?_); refine box_event ?hg (N := 1) ?hd (cs := #[.bool a0_0, .slice A0_1 l0_1.length c0_1, .slice A0_2 l0_2.length c0_2, .slice A0_3 l0_3.length c0_3, .bool false, .bool true, .int .i64 a0_6, .bool a0_7]) (t := 31) ?hr ?_; (case hd => rfl); (case hg => rfl); (case hr => first | (go_simp; done) | (go_simp; rfl)); intro gb126 hg w13 hbox hb; have n0_ := am (below_step (by repeat (first | (with_reducible first | exact HB.out | apply bal | apply bdn | apply bd1) | exact HB.out)) hb); have n1_ := am (hbox); have n2_ := am ((by rw [hg]; exact (below_size (by repeat (first | (with_reducible first | exact HB.out | apply bal | apply bdn | apply bd1) | exact HB.out))) : w.heap.size ≤ gb126)); have n3_ := am ((by rw [hg]; exact (below_size (by repeat (first | (with_reducible first | exact HB.out | apply bal | apply bdn | apply bd1) | exact HB.out))) : w.heap.size ≤ gb126)); clear HB; have HB := n0_; have BK126 := n1_; have GW126 := n2_; have GE126 := n3_; clear n0_ n1_ n2_ n3_; clear hb hbox hg) | ((with_reducible refine gate_dst (N := 2) rfl ?_); refine box_event ?hg (N := 2) ?hd (cs := #[.slice none 0 0]) (t := 29) ?hr ?_; (case hd => rfl); (case hg => rfl); (case hr => first | (go_simp; done) | (go_simp; rfl)); intro gb127 hg w14 hbox hb; have n0_ := am (blk_below (g := gb126) (o := .cells #[.bool a0_0, .slice A0_1 l0_1.length c0_1, .slice A0_2 l0_2.length c0_2, .slice A0_3 l0_3.length c0_3, .bool false, .bool true, .int .i64 a0_6, .bool a0_7] 31 (0, 0)) (by (with_reducible repeat (first | refine kdn ?_ _ | refine kdr ?_ | refine kal ?_ _)); exact BK126.out) hb); have n1_ := am (below_step (by repeat (first | (with_reducible first | exact HB.out | apply bal | apply bdn | apply bd1 | refine bst ?_ GE126.out) | exact HB.out)) hb); have n2_ := am (hbox); have n3_ := am ((by rw [hg]; exact (below_size (by repeat (first | (with_reducible first | exact HB.out | apply bal | apply bdn | apply bd1 | refine bst ?_ GE126.out) | exact HB.out))) : w.heap.size ≤ gb127)); have n4_ := am ((by rw [hg]; exact (below_size (by repeat (first | (with_reducible first | exact HB.out | apply bal | apply bdn | apply bd1 | refine bst ?_ GE126.out) | exact HB.out))) : w.heap.size ≤ gb127)); have n5_ := am ((by rw [hg]; exact Nat.ne_of_lt (blk_lt (g := gb126) (o := .cells #[.bool a0_0, .slice A0_1 l0_1.length c0_1, .slice A0_2 l0_2.length c0_2, .slice A0_3 l0_3.length c0_3, .bool false, .bool true, .int .i64 a0_6, .bool a0_7] 31 (0, 0)) (by (with_reducible repeat (first | refine kdn ?_ _ | refine kdr ?_ | refine kal ?_ _)); exact BK126.out)) : gb126 ≠ gb127)); have n6_ := am ((by rw [hg]; exact Nat.ne_of_gt (blk_lt (g := gb126) (o := .cells #[.bool a0_0, .slice A0_1 l0_1.length c0_1, .slice A0_2 l0_2.length c0_2, .slice A0_3 l0_3.length c0_3, .bool false, .bool true, .int .i64 a0_6, .bool a0_7] 31 (0, 0)) (by (with_reducible repeat (first | refine kdn ?_ _ | refine kdr ?_ | refine kal ?_ _)); exact BK126.out)) : gb127 ≠ gb126)); clear BK126; clear HB; have BK126 := n0_; have HB := n1_; have BK127 := n2_; have GW127 := n3_; have GE127 := n4_; have NB126_127 := n5_; have NB127_126 := n6_; clear n0_ n1_ n2_ n3_ n4_ n5_ n6_; clear hb hbox hg; have hnb15 := NB126_127.out; have hnc15 := NB127_126.out; have hcz16_0 : w14.cell? ⟨gb126, 0, none⟩ = some (.bool a0_0) := (bcl BK126.out 0).trans rfl; have hcz16_1 : w14.cell? ⟨gb126, 1, none⟩ = some (.slice A0_1 l0_1.length c0_1) := (bcl BK126.out 1).trans rfl; have hcz16_2 : w14.cell? ⟨gb126, 2, none⟩ = some (.slice A0_2 l0_2.length c0_2) := (bcl BK126.out 2).trans rfl; have hcz16_3 : w14.cell? ⟨gb126, 3, none⟩ = some (.slice A0_3 l0_3.length c0_3) := (bcl BK126.out 3).trans rfl; have hcz16_4 : w14.cell? ⟨gb126, 4, none⟩ = some (.bool false) := (bcl BK126.out 4).trans rfl; have hcz16_5 : w14.cell? ⟨gb126, 5, none⟩ = some (.bool true) := (bcl BK126.out 5).trans rfl; have hcz16_6 : w14.cell? ⟨gb126, 6, none⟩ = some (.int .i64 a0_6) := (bcl BK126.out 6).trans rfl; have hcz16_7 : w14.cell? ⟨gb126, 7, none⟩ = some (.bool a0_7) := (bcl BK126.out 7).trans rfl; have hfz16_0 := bfz BK126.out 0; have hfz16_1 := bfz BK126.out 1; have hfz16_2 := bfz BK126.out 2; have hfz16_3 := bfz BK126.out 3; have hfz16_4 := bfz BK126.out 4; have hfz16_5 := bfz BK126.out 5; have hfz16_6 := bfz BK126.out 6; have hfz16_7 := bfz BK126.out 7) | ((with_reducible refine gate_callee (f := 38) rfl ?_); refine goesL_ (some 15) rfl rfl Tryd.func38 (by kernel_rfl) rfl #[.agg #[.bool a0_0, .slice A0_1 l0_1.length c0_1, .slice A0_2 l0_2.length c0_2, .slice A0_3 l0_3.length c0_3, .bool false, .bool true, .int .i64 a0_6, .bool a0_7]] rfl (by (try simp only [List.map_toArray, List.map_cons, List.map_nil]); first | done | rfl | (simp only [List.length_drop, List.length_take]; rfl)) ?_; (with_reducible refine (fence_State_wanting.calls k a0_0 _ _ l0_1 _ _ l0_2 _ _ l0_3 false true a0_6 a0_7 t131 _ ?side1 ?side2 ?side3 ?side4 ?side5 ?side6 A12.out).mono ?_); (case side1 => repeat (first | exact (Kd.C_below HR0_1.out HB.out) | (with_reducible refine Kd.C_alloc ?_ _) | (with_reducible refine Kd.C_drewN ?_ _) | (with_reducible refine Kd.C_drew ?_))); (case side2 => exact HC0_1.out); (case side3 => repeat (first | exact (Kd.C_below HR0_2.out HB.out) | (with_reducible refine Kd.C_alloc ?_ _) | (with_reducible refine Kd.C_drewN ?_ _) | (with_reducible refine Kd.C_drew ?_))); (case side4 => exact HC0_2.out); (case side5 => repeat (first | exact (Kd.C_below HR0_3.out HB.out) | (with_reducible refine Kd.C_alloc ?_ _) | (with_reducible refine Kd.C_drewN ?_ _) | (with_reducible refine Kd.C_drew ?_))); (case side6 => exact HC0_3.out); rintro e w17 ⟨v132, rfl, ho0, hb⟩; refine ⟨_, rfl, ?_⟩; have n0_ := am (Kd.R_lower ho0 (below_size (by repeat (first | (with_reducible first | exact HB.out | apply bal | apply bdn | apply bd1 | refine bst ?_ GE126.out | refine bst ?_ GE127.out) | exact HB.out)))); have n1_ := am (blk_below (g := gb126) (o := .cells #[.bool a0_0, .slice A0_1 l0_1.length c0_1, .slice A0_2 l0_2.length c0_2, .slice A0_3 l0_3.length c0_3, .bool false, .bool true, .int .i64 a0_6, .bool a0_7] 31 (0, 0)) (by (with_reducible repeat (first | refine kdn ?_ _ | refine kdr ?_ | refine kal ?_ _)); exact BK126.out) hb); have n2_ := am (blk_below (g := gb127) (o := .cells #[.slice none 0 0] 29 (0, 0)) (by (with_reducible repeat (first | refine kdn ?_ _ | refine kdr ?_ | refine kal ?_ _)); exact BK127.out) hb); have n3_ := am (below_step (by repeat (first | (with_reducible first | exact HB.out | apply bal | apply bdn | apply bd1 | refine bst ?_ GE126.out | refine bst ?_ GE127.out) | exact HB.out)) hb); clear BK126; clear BK127; clear HB; have HO133 := n0_; have BK126 := n1_; have BK127 := n2_; have HB := n3_; clear n0_ n1_ n2_ n3_; (try clear hb); (try clear hb2); (try clear hk); (try clear hi); (try clear ho0); obtain ⟨Ao18, co18, eo18⟩ := Kd.R_slice HO133.out; subst eo18; have hcz19_0 : w17.cell? ⟨gb127, 0, none⟩ = some (.slice none 0 0) := (bcl BK127.out 0).trans rfl; have hfz19_0 := bfz BK127.out 0))
   refine bodyPost_ret (results_cell_row rfl _ _ gb127 29 #[.slice Ao18 t131.length co18] (0, 0) _ rfl (by (with_reducible repeat (first | refine kdn ?_ _ | refine kdr ?_ | refine kal ?_ _)); refine blk_put (cs := #[.slice none 0 0]) ?_ 0 _ rfl; (with_reducible repeat (first | refine kdn ?_ _ | refine kdr ?_ | refine kal ?_ _)); exact BK127.out) Tryd.underlying29 rfl (by kernel_rfl)) rfl ?_
   exact ⟨_, by first | rfl | (simp [errW_none, errW_some] <;> rfl) | (simp [*, errW_none, errW_some] <;> rfl), by (with_reducible repeat (first | apply Kd.R_alloc | apply Kd.R_drewN | apply Kd.R_drew)); exact Kd.R_mono (Kd.R_far (p := ⟨gb127, 0, none⟩) (Kd.R_types HO133.out BK127.out (by decide)) (fun _ hk => hk.2) (.slice Ao18 t131.length co18)) (fun _ hk => trivial), by repeat (first | (with_reducible first | exact HB.out | apply bal | apply bdn | apply bd1 | refine bst ?_ GE126.out | refine bst ?_ GE127.out) | exact HB.out)⟩
  ·replace c11 := Bool.eq_false_iff.mpr c11
   subst c11
   have H1 : (if a0_7 = true then (some ([] : List (S42))) else ((fence_State_wanting.f k a0_0 l0_1 l0_2 l0_3 false false a0_6 a0_7).bind fun t134 => (some t134))) = some r := by rw [if_neg (show ¬ (false = true) by decide)] at H; exact H
   clear H
   have H := H1
   clear H1
   by_cases c20 : a0_7 = true
   ·subst c20
    have H1 : (some ([] : List (S42))) = some r := by rw [if_pos rfl] at H; exact H
    clear H
    have H := H1
    clear H1
    obtain rfl := Option.some.inj H
    go_enter Tryd.func19, Tryd.ntmps19
    go_wp2_with (first | ((with_reducible refine gate_dst (N := 1) rfl ?_); refine box_event ?hg (N := 1) ?hd (cs := #[.bool a0_0, .slice A0_1 l0_1.length c0_1, .slice A0_2 l0_2.length c0_2, .slice A0_3 l0_3.length c0_3, .bool false, .bool false, .int .i64 a0_6, .bool true]) (t := 31) ?hr ?_; (case hd => rfl); (case hg => rfl); (case hr => first | (go_simp; done) | (go_simp; rfl)); intro gb126 hg w21 hbox hb; have n0_ := am (below_step (by repeat (first | (with_reducible first | exact HB.out | apply bal | apply bdn | apply bd1) | exact HB.out)) hb); have n1_ := am (hbox); have n2_ := am ((by rw [hg]; exact (below_size (by repeat (first | (with_reducible first | exact HB.out | apply bal | apply bdn | apply bd1) | exact HB.out))) : w.heap.size ≤ gb126)); have n3_ := am ((by rw [hg]; exact (below_size (by repeat (first | (with_reducible first | exact HB.out | apply bal | apply bdn | apply bd1) | exact HB.out))) : w.heap.size ≤ gb126)); clear HB; have HB := n0_; have BK126 := n1_; have GW126 := n2_; have GE126 := n3_; clear n0_ n1_ n2_ n3_; clear hb hbox hg) | ((with_reducible refine gate_dst (N := 2) rfl ?_); refine box_event ?hg (N := 2) ?hd (cs := #[.slice none 0 0]) (t := 29) ?hr ?_; (case hd => rfl); (case hg => rfl); (case hr => first | (go_simp; done) | (go_simp; rfl)); intro gb127 hg w22 hbox hb; have n0_ := am (blk_below (g := gb126) (o := .cells #[.bool a0_0, .slice A0_1 l0_1.length c0_1, .slice A0_2 l0_2.length c0_2, .slice A0_3 l0_3.length c0_3, .bool false, .bool false, .int .i64 a0_6, .bool true] 31 (0, 0)) (by (with_reducible repeat (first | refine kdn ?_ _ | refine kdr ?_ | refine kal ?_ _)); exact BK126.out) hb); have n1_ := am (below_step (by repeat (first | (with_reducible first | exact HB.out | apply bal | apply bdn | apply bd1 | refine bst ?_ GE126.out) | exact HB.out)) hb); have n2_ := am (hbox); have n3_ := am ((by rw [hg]; exact (below_size (by repeat (first | (with_reducible first | exact HB.out | apply bal | apply bdn | apply bd1 | refine bst ?_ GE126.out) | exact HB.out))) : w.heap.size ≤ gb127)); have n4_ := am ((by rw [hg]; exact (below_size (by repeat (first | (with_reducible first | exact HB.out | apply bal | apply bdn | apply bd1 | refine bst ?_ GE126.out) | exact HB.out))) : w.heap.size ≤ gb127)); have n5_ := am ((by rw [hg]; exact Nat.ne_of_lt (blk_lt (g := gb126) (o := .cells #[.bool a0_0, .slice A0_1 l0_1.length c0_1, .slice A0_2 l0_2.length c0_2, .slice A0_3 l0_3.length c0_3, .bool false, .bool false, .int .i64 a0_6, .bool true] 31 (0, 0)) (by (with_reducible repeat (first | refine kdn ?_ _ | refine kdr ?_ | refine kal ?_ _)); exact BK126.out)) : gb126 ≠ gb127)); have n6_ := am ((by rw [hg]; exact Nat.ne_of_gt (blk_lt (g := gb126) (o := .cells #[.bool a0_0, .slice A0_1 l0_1.length c0_1, .slice A0_2 l0_2.length c0_2, .slice A0_3 l0_3.length c0_3, .bool false, .bool false, .int .i64 a0_6, .bool true] 31 (0, 0)) (by (with_reducible repeat (first | refine kdn ?_ _ | refine kdr ?_ | refine kal ?_ _)); exact BK126.out)) : gb127 ≠ gb126)); clear BK126; clear HB; have BK126 := n0_; have HB := n1_; have BK127 := n2_; have GW127 := n3_; have GE127 := n4_; have NB126_127 := n5_; have NB127_126 := n6_; clear n0_ n1_ n2_ n3_ n4_ n5_ n6_; clear hb hbox hg; have hnb23 := NB126_127.out; have hnc23 := NB127_126.out; have hcz24_0 : w22.cell? ⟨gb126, 0, none⟩ = some (.bool a0_0) := (bcl BK126.out 0).trans rfl; have hcz24_1 : w22.cell? ⟨gb126, 1, none⟩ = some (.slice A0_1 l0_1.length c0_1) := (bcl BK126.out 1).trans rfl; have hcz24_2 : w22.cell? ⟨gb126, 2, none⟩ = some (.slice A0_2 l0_2.length c0_2) := (bcl BK126.out 2).trans rfl; have hcz24_3 : w22.cell? ⟨gb126, 3, none⟩ = some (.slice A0_3 l0_3.length c0_3) := (bcl BK126.out 3).trans rfl; have hcz24_4 : w22.cell? ⟨gb126, 4, none⟩ = some (.bool false) := (bcl BK126.out 4).trans rfl; have hcz24_5 : w22.cell? ⟨gb126, 5, none⟩ = some (.bool false) := (bcl BK126.out 5).trans rfl; have hcz24_6 : w22.cell? ⟨gb126, 6, none⟩ = some (.int .i64 a0_6) := (bcl BK126.out 6).trans rfl; have hcz24_7 : w22.cell? ⟨gb126, 7, none⟩ = some (.bool true) := (bcl BK126.out 7).trans rfl; have hfz24_0 := bfz BK126.out 0; have hfz24_1 := bfz BK126.out 1; have hfz24_2 := bfz BK126.out 2; have hfz24_3 := bfz BK126.out 3; have hfz24_4 := bfz BK126.out 4; have hfz24_5 := bfz BK126.out 5; have hfz24_6 := bfz BK126.out 6; have hfz24_7 := bfz BK126.out 7; have hcz25_0 : w22.cell? ⟨gb127, 0, none⟩ = some (.slice none 0 0) := (bcl BK127.out 0).trans rfl; have hfz25_0 := bfz BK127.out 0))
    refine bodyPost_ret (results_cell_row rfl _ _ gb127 29 #[.slice none 0 0] (0, 0) _ rfl (by (with_reducible repeat (first | refine kdn ?_ _ | refine kdr ?_ | refine kal ?_ _)); refine blk_put (cs := #[.slice none 0 0]) ?_ 0 _ rfl; (with_reducible repeat (first | refine kdn ?_ _ | refine kdr ?_ | refine kal ?_ _)); exact BK127.out) Tryd.underlying29 rfl (by kernel_rfl)) rfl ?_
    exact ⟨_, by first | rfl | (simp [errW_none, errW_some] <;> rfl) | (simp [*, errW_none, errW_some] <;> rfl), by first | exact Kd.R_nil _ _ _ _ _ | exact Kd.N_nil _ _ _ _ _ | exact Kd.V_nil _ _ _ _ _ | exact Kd.Q_nil _ _ _ _ _ | exact Kd.S_nil _ _ _ _ _, by repeat (first | (with_reducible first | exact HB.out | apply bal | apply bdn | apply bd1 | refine bst ?_ GE126.out | refine bst ?_ GE127.out) | exact HB.out)⟩
   ·replace c20 := Bool.eq_false_iff.mpr c20
    subst c20
    have H1 : ((fence_State_wanting.f k a0_0 l0_1 l0_2 l0_3 false false a0_6 false).bind fun t134 => (some t134)) = some r := by rw [if_neg (show ¬ (false = true) by decide)] at H; exact H
    clear H
    have H := H1
    clear H1
    replace H := Option.bind_eq_some_iff.mp H
    obtain ⟨t134, A260, H⟩ := H
    replace H : (some t134) = some r := H
    have A26 := am A260
    clear A260
    obtain rfl := Option.some.inj H
    go_enter Tryd.func19, Tryd.ntmps19
    go_wp2_with (first | ((with_reducible refine gate_dst (N := 1) rfl ?_); refine box_event ?hg (N := 1) ?hd (cs := #[.bool a0_0, .slice A0_1 l0_1.length c0_1, .slice A0_2 l0_2.length c0_2, .slice A0_3 l0_3.length c0_3, .bool false, .bool false, .int .i64 a0_6, .bool false]) (t := 31) ?hr ?_; (case hd => rfl); (case hg => rfl); (case hr => first | (go_simp; done) | (go_simp; rfl)); intro gb126 hg w27 hbox hb; have n0_ := am (below_step (by repeat (first | (with_reducible first | exact HB.out | apply bal | apply bdn | apply bd1) | exact HB.out)) hb); have n1_ := am (hbox); have n2_ := am ((by rw [hg]; exact (below_size (by repeat (first | (with_reducible first | exact HB.out | apply bal | apply bdn | apply bd1) | exact HB.out))) : w.heap.size ≤ gb126)); have n3_ := am ((by rw [hg]; exact (below_size (by repeat (first | (with_reducible first | exact HB.out | apply bal | apply bdn | apply bd1) | exact HB.out))) : w.heap.size ≤ gb126)); clear HB; have HB := n0_; have BK126 := n1_; have GW126 := n2_; have GE126 := n3_; clear n0_ n1_ n2_ n3_; clear hb hbox hg) | ((with_reducible refine gate_dst (N := 2) rfl ?_); refine box_event ?hg (N := 2) ?hd (cs := #[.slice none 0 0]) (t := 29) ?hr ?_; (case hd => rfl); (case hg => rfl); (case hr => first | (go_simp; done) | (go_simp; rfl)); intro gb127 hg w28 hbox hb; have n0_ := am (blk_below (g := gb126) (o := .cells #[.bool a0_0, .slice A0_1 l0_1.length c0_1, .slice A0_2 l0_2.length c0_2, .slice A0_3 l0_3.length c0_3, .bool false, .bool false, .int .i64 a0_6, .bool false] 31 (0, 0)) (by (with_reducible repeat (first | refine kdn ?_ _ | refine kdr ?_ | refine kal ?_ _)); exact BK126.out) hb); have n1_ := am (below_step (by repeat (first | (with_reducible first | exact HB.out | apply bal | apply bdn | apply bd1 | refine bst ?_ GE126.out) | exact HB.out)) hb); have n2_ := am (hbox); have n3_ := am ((by rw [hg]; exact (below_size (by repeat (first | (with_reducible first | exact HB.out | apply bal | apply bdn | apply bd1 | refine bst ?_ GE126.out) | exact HB.out))) : w.heap.size ≤ gb127)); have n4_ := am ((by rw [hg]; exact (below_size (by repeat (first | (with_reducible first | exact HB.out | apply bal | apply bdn | apply bd1 | refine bst ?_ GE126.out) | exact HB.out))) : w.heap.size ≤ gb127)); have n5_ := am ((by rw [hg]; exact Nat.ne_of_lt (blk_lt (g := gb126) (o := .cells #[.bool a0_0, .slice A0_1 l0_1.length c0_1, .slice A0_2 l0_2.length c0_2, .slice A0_3 l0_3.length c0_3, .bool false, .bool false, .int .i64 a0_6, .bool false] 31 (0, 0)) (by (with_reducible repeat (first | refine kdn ?_ _ | refine kdr ?_ | refine kal ?_ _)); exact BK126.out)) : gb126 ≠ gb127)); have n6_ := am ((by rw [hg]; exact Nat.ne_of_gt (blk_lt (g := gb126) (o := .cells #[.bool a0_0, .slice A0_1 l0_1.length c0_1, .slice A0_2 l0_2.length c0_2, .slice A0_3 l0_3.length c0_3, .bool false, .bool false, .int .i64 a0_6, .bool false] 31 (0, 0)) (by (with_reducible repeat (first | refine kdn ?_ _ | refine kdr ?_ | refine kal ?_ _)); exact BK126.out)) : gb127 ≠ gb126)); clear BK126; clear HB; have BK126 := n0_; have HB := n1_; have BK127 := n2_; have GW127 := n3_; have GE127 := n4_; have NB126_127 := n5_; have NB127_126 := n6_; clear n0_ n1_ n2_ n3_ n4_ n5_ n6_; clear hb hbox hg; have hnb29 := NB126_127.out; have hnc29 := NB127_126.out; have hcz30_0 : w28.cell? ⟨gb126, 0, none⟩ = some (.bool a0_0) := (bcl BK126.out 0).trans rfl; have hcz30_1 : w28.cell? ⟨gb126, 1, none⟩ = some (.slice A0_1 l0_1.length c0_1) := (bcl BK126.out 1).trans rfl; have hcz30_2 : w28.cell? ⟨gb126, 2, none⟩ = some (.slice A0_2 l0_2.length c0_2) := (bcl BK126.out 2).trans rfl; have hcz30_3 : w28.cell? ⟨gb126, 3, none⟩ = some (.slice A0_3 l0_3.length c0_3) := (bcl BK126.out 3).trans rfl; have hcz30_4 : w28.cell? ⟨gb126, 4, none⟩ = some (.bool false) := (bcl BK126.out 4).trans rfl; have hcz30_5 : w28.cell? ⟨gb126, 5, none⟩ = some (.bool false) := (bcl BK126.out 5).trans rfl; have hcz30_6 : w28.cell? ⟨gb126, 6, none⟩ = some (.int .i64 a0_6) := (bcl BK126.out 6).trans rfl; have hcz30_7 : w28.cell? ⟨gb126, 7, none⟩ = some (.bool false) := (bcl BK126.out 7).trans rfl; have hfz30_0 := bfz BK126.out 0; have hfz30_1 := bfz BK126.out 1; have hfz30_2 := bfz BK126.out 2; have hfz30_3 := bfz BK126.out 3; have hfz30_4 := bfz BK126.out 4; have hfz30_5 := bfz BK126.out 5; have hfz30_6 := bfz BK126.out 6; have hfz30_7 := bfz BK126.out 7) | ((with_reducible refine gate_callee (f := 38) rfl ?_); refine goesL_ (some 15) rfl rfl Tryd.func38 (by kernel_rfl) rfl #[.agg #[.bool a0_0, .slice A0_1 l0_1.length c0_1, .slice A0_2 l0_2.length c0_2, .slice A0_3 l0_3.length c0_3, .bool false, .bool false, .int .i64 a0_6, .bool false]] rfl (by (try simp only [List.map_toArray, List.map_cons, List.map_nil]); first | done | rfl | (simp only [List.length_drop, List.length_take]; rfl)) ?_; (with_reducible refine (fence_State_wanting.calls k a0_0 _ _ l0_1 _ _ l0_2 _ _ l0_3 false false a0_6 false t134 _ ?side1 ?side2 ?side3 ?side4 ?side5 ?side6 A26.out).mono ?_); (case side1 => repeat (first | exact (Kd.C_below HR0_1.out HB.out) | (with_reducible refine Kd.C_alloc ?_ _) | (with_reducible refine Kd.C_drewN ?_ _) | (with_reducible refine Kd.C_drew ?_))); (case side2 => exact HC0_1.out); (case side3 => repeat (first | exact (Kd.C_below HR0_2.out HB.out) | (with_reducible refine Kd.C_alloc ?_ _) | (with_reducible refine Kd.C_drewN ?_ _) | (with_reducible refine Kd.C_drew ?_))); (case side4 => exact HC0_2.out); (case side5 => repeat (first | exact (Kd.C_below HR0_3.out HB.out) | (with_reducible refine Kd.C_alloc ?_ _) | (with_reducible refine Kd.C_drewN ?_ _) | (with_reducible refine Kd.C_drew ?_))); (case side6 => exact HC0_3.out); rintro e w31 ⟨v135, rfl, ho0, hb⟩; refine ⟨_, rfl, ?_⟩; have n0_ := am (Kd.R_lower ho0 (below_size (by repeat (first | (with_reducible first | exact HB.out | apply bal | apply bdn | apply bd1 | refine bst ?_ GE126.out | refine bst ?_ GE127.out) | exact HB.out)))); have n1_ := am (blk_below (g := gb126) (o := .cells #[.bool a0_0, .slice A0_1 l0_1.length c0_1, .slice A0_2 l0_2.length c0_2, .slice A0_3 l0_3.length c0_3, .bool false, .bool false, .int .i64 a0_6, .bool false] 31 (0, 0)) (by (with_reducible repeat (first | refine kdn ?_ _ | refine kdr ?_ | refine kal ?_ _)); exact BK126.out) hb); have n2_ := am (blk_below (g := gb127) (o := .cells #[.slice none 0 0] 29 (0, 0)) (by (with_reducible repeat (first | refine kdn ?_ _ | refine kdr ?_ | refine kal ?_ _)); exact BK127.out) hb); have n3_ := am (below_step (by repeat (first | (with_reducible first | exact HB.out | apply bal | apply bdn | apply bd1 | refine bst ?_ GE126.out | refine bst ?_ GE127.out) | exact HB.out)) hb); clear BK126; clear BK127; clear HB; have HO136 := n0_; have BK126 := n1_; have BK127 := n2_; have HB := n3_; clear n0_ n1_ n2_ n3_; (try clear hb); (try clear hb2); (try clear hk); (try clear hi); (try clear ho0); obtain ⟨Ao32, co32, eo32⟩ := Kd.R_slice HO136.out; subst eo32; have hcz33_0 : w31.cell? ⟨gb127, 0, none⟩ = some (.slice none 0 0) := (bcl BK127.out 0).trans rfl; have hfz33_0 := bfz BK127.out 0))
    refine bodyPost_ret (results_cell_row rfl _ _ gb127 29 #[.slice Ao32 t134.length co32] (0, 0) _ rfl (by (with_reducible repeat (first | refine kdn ?_ _ | refine kdr ?_ | refine kal ?_ _)); refine blk_put (cs := #[.slice none 0 0]) ?_ 0 _ rfl; (with_reducible repeat (first | refine kdn ?_ _ | refine kdr ?_ | refine kal ?_ _)); exact BK127.out) Tryd.underlying29 rfl (by kernel_rfl)) rfl ?_
    exact ⟨_, by first | rfl | (simp [errW_none, errW_some] <;> rfl) | (simp [*, errW_none, errW_some] <;> rfl), by (with_reducible repeat (first | apply Kd.R_alloc | apply Kd.R_drewN | apply Kd.R_drew)); exact Kd.R_mono (Kd.R_far (p := ⟨gb127, 0, none⟩) (Kd.R_types HO136.out BK127.out (by decide)) (fun _ hk => hk.2) (.slice Ao32 t134.length co32)) (fun _ hk => trivial), by repeat (first | (with_reducible first | exact HB.out | apply bal | apply bdn | apply bd1 | refine bst ?_ GE126.out | refine bst ?_ GE127.out) | exact HB.out)⟩

/-! ### span_Right: function 44 -/
def span_Right.f (a0_0 : Int) (a0_1 : Int) : Option (Bool) := if 0 ≤ a0_0 then (if a0_0 ≤ a0_1 then (some (decide (a0_1 ≤ 4611686018427387904))) else (some false)) else (some false)
set_option maxHeartbeats 8000000 in
set_option maxRecDepth 100000 in
theorem span_Right.calls (a0_0 : Int) (a0_1 : Int) (r : Bool) (w : World) (h : span_Right.f a0_0 a0_1 = some r) :
  Calls Tryd.prog 44 #[.agg #[.int .i64 a0_0, .int .i64 a0_1]] w fun e w' => e = .returned (.bool r) ∧ Below w.heap.size w w' := by
 have hu42 := Tryd.underlying42
 have HB := am (Below.refl w.heap.size w)
 have H : (if 0 ≤ a0_0 then (if a0_0 ≤ a0_1 then (some (decide (a0_1 ≤ 4611686018427387904))) else (some false)) else (some false)) = some r := h
 clear h
 by_cases c2 : 0 ≤ a0_0
 ·rw [if_pos c2] at H
  have c2b0 : decide (0 ≤ a0_0) = true := decide_eq_true c2
  clear c2
  by_cases c3 : a0_0 ≤ a0_1
  ·rw [if_pos c3] at H
   have c3b0 : decide (a0_0 ≤ a0_1) = true := decide_eq_true c3
   clear c3
   obtain rfl := Option.some.inj H
   go_enter Tryd.func44, Tryd.ntmps44
   go_wp2_with (first | ((with_reducible refine gate_dst (N := 1) rfl ?_); refine box_event ?hg (N := 1) ?hd (cs := #[.int .i64 a0_0, .int .i64 a0_1]) (t := 42) ?hr ?_; (case hd => rfl); (case hg => rfl); (case hr => first | (go_simp; done) | (go_simp; rfl)); intro gb142 hg w4 hbox hb; have n0_ := am (below_step (by repeat (first | (with_reducible first | exact HB.out | apply bal | apply bdn | apply bd1) | exact HB.out)) hb); have n1_ := am (hbox); have n2_ := am ((by rw [hg]; exact (below_size (by repeat (first | (with_reducible first | exact HB.out | apply bal | apply bdn | apply bd1) | exact HB.out))) : w.heap.size ≤ gb142)); have n3_ := am ((by rw [hg]; exact (below_size (by repeat (first | (with_reducible first | exact HB.out | apply bal | apply bdn | apply bd1) | exact HB.out))) : w.heap.size ≤ gb142)); clear HB; have HB := n0_; have BK142 := n1_; have GW142 := n2_; have GE142 := n3_; clear n0_ n1_ n2_ n3_; clear hb hbox hg; have hcz5_0 : w4.cell? ⟨gb142, 0, none⟩ = some (.int .i64 a0_0) := (bcl BK142.out 0).trans rfl; have hcz5_1 : w4.cell? ⟨gb142, 1, none⟩ = some (.int .i64 a0_1) := (bcl BK142.out 1).trans rfl; have hfz5_0 := bfz BK142.out 0; have hfz5_1 := bfz BK142.out 1))
   go_ret
   exact ⟨by first | rfl | (simp [errW_none, errW_some] <;> rfl) | (simp [*, errW_none, errW_some] <;> rfl), by repeat (first | (with_reducible first | exact HB.out | apply bal | apply bdn | apply bd1 | refine bst ?_ GE142.out) | exact HB.out)⟩
  ·rw [if_neg c3] at H
   have c3b0 : decide (a0_0 ≤ a0_1) = false := decide_eq_false c3
   clear c3
   obtain rfl := Option.some.inj H
   go_enter Tryd.func44, Tryd.ntmps44
   go_wp2_with (first | ((with_reducible refine gate_dst (N := 1) rfl ?_); refine box_event ?hg (N := 1) ?hd (cs := #[.int .i64 a0_0, .int .i64 a0_1]) (t := 42) ?hr ?_; (case hd => rfl); (case hg => rfl); (case hr => first | (go_simp; done) | (go_simp; rfl)); intro gb142 hg w6 hbox hb; have n0_ := am (below_step (by repeat (first | (with_reducible first | exact HB.out | apply bal | apply bdn | apply bd1) | exact HB.out)) hb); have n1_ := am (hbox); have n2_ := am ((by rw [hg]; exact (below_size (by repeat (first | (with_reducible first | exact HB.out | apply bal | apply bdn | apply bd1) | exact HB.out))) : w.heap.size ≤ gb142)); have n3_ := am ((by rw [hg]; exact (below_size (by repeat (first | (with_reducible first | exact HB.out | apply bal | apply bdn | apply bd1) | exact HB.out))) : w.heap.size ≤ gb142)); clear HB; have HB := n0_; have BK142 := n1_; have GW142 := n2_; have GE142 := n3_; clear n0_ n1_ n2_ n3_; clear hb hbox hg; have hcz7_0 : w6.cell? ⟨gb142, 0, none⟩ = some (.int .i64 a0_0) := (bcl BK142.out 0).trans rfl; have hcz7_1 : w6.cell? ⟨gb142, 1, none⟩ = some (.int .i64 a0_1) := (bcl BK142.out 1).trans rfl; have hfz7_0 := bfz BK142.out 0; have hfz7_1 := bfz BK142.out 1))
   go_ret
   exact ⟨by first | rfl | (simp [errW_none, errW_some] <;> rfl) | (simp [*, errW_none, errW_some] <;> rfl), by repeat (first | (with_reducible first | exact HB.out | apply bal | apply bdn | apply bd1 | refine bst ?_ GE142.out) | exact HB.out)⟩
 ·rw [if_neg c2] at H
  have c2b0 : decide (0 ≤ a0_0) = false := decide_eq_false c2
  clear c2
  obtain rfl := Option.some.inj H
  go_enter Tryd.func44, Tryd.ntmps44
  go_wp2_with (first | ((with_reducible refine gate_dst (N := 1) rfl ?_); refine box_event ?hg (N := 1) ?hd (cs := #[.int .i64 a0_0, .int .i64 a0_1]) (t := 42) ?hr ?_; (case hd => rfl); (case hg => rfl); (case hr => first | (go_simp; done) | (go_simp; rfl)); intro gb142 hg w8 hbox hb; have n0_ := am (below_step (by repeat (first | (with_reducible first | exact HB.out | apply bal | apply bdn | apply bd1) | exact HB.out)) hb); have n1_ := am (hbox); have n2_ := am ((by rw [hg]; exact (below_size (by repeat (first | (with_reducible first | exact HB.out | apply bal | apply bdn | apply bd1) | exact HB.out))) : w.heap.size ≤ gb142)); have n3_ := am ((by rw [hg]; exact (below_size (by repeat (first | (with_reducible first | exact HB.out | apply bal | apply bdn | apply bd1) | exact HB.out))) : w.heap.size ≤ gb142)); clear HB; have HB := n0_; have BK142 := n1_; have GW142 := n2_; have GE142 := n3_; clear n0_ n1_ n2_ n3_; clear hb hbox hg; have hcz9_0 : w8.cell? ⟨gb142, 0, none⟩ = some (.int .i64 a0_0) := (bcl BK142.out 0).trans rfl; have hcz9_1 : w8.cell? ⟨gb142, 1, none⟩ = some (.int .i64 a0_1) := (bcl BK142.out 1).trans rfl; have hfz9_0 := bfz BK142.out 0; have hfz9_1 := bfz BK142.out 1))
  go_ret
  exact ⟨by first | rfl | (simp [errW_none, errW_some] <;> rfl) | (simp [*, errW_none, errW_some] <;> rfl), by repeat (first | (with_reducible first | exact HB.out | apply bal | apply bdn | apply bd1 | refine bst ?_ GE142.out) | exact HB.out)⟩

/-! ### span_Has: function 41 -/
def span_Has.f (a0_0 : Int) (a0_1 : Int) (a1 : Int) : Option (Bool) := (span_Right.f a0_0 a0_1).bind fun t144 => (if t144 = true then (if a0_0 ≤ a1 then (some (decide (a1 < a0_1))) else (some false)) else (some false))
set_option maxHeartbeats 8000000 in
set_option maxRecDepth 100000 in
theorem span_Has.calls (a0_0 : Int) (a0_1 : Int) (a1 : Int) (r : Bool) (w : World) (h : span_Has.f a0_0 a0_1 a1 = some r) :
  Calls Tryd.prog 41 #[.agg #[.int .i64 a0_0, .int .i64 a0_1], .int .i64 a1] w fun e w' => e = .returned (.bool r) ∧ Below w.heap.size w w' := by
 have hu42 := Tryd.underlying42
 have HB := am (Below.refl w.heap.size w)
 have H : ((span_Right.f a0_0 a0_1).bind fun t144 => (if t144 = true then (if a0_0 ≤ a1 then (some (decide (a1 < a0_1))) else (some false)) else (some false))) = some r := h
 clear h
 replace H := Option.bind_eq_some_iff.mp H
 obtain ⟨t144, A30, H⟩ := H
 replace H : (if t144 = true then (if a0_0 ≤ a1 then (some (decide (a1 < a0_1))) else (some false)) else (some false)) = some r := H
 have A3 := am A30
 clear A30
 by_cases c4 : t144 = true
 ·subst c4
  have H1 : (if a0_0 ≤ a1 then (some (decide (a1 < a0_1))) else (some false)) = some r := by rw [if_pos rfl] at H; exact H
  clear H
  have H := H1
  clear H1
  by_cases c5 : a0_0 ≤ a1
  ·rw [if_pos c5] at H
   have c5b0 : decide (a0_0 ≤ a1) = true := decide_eq_true c5
   clear c5
   obtain rfl := Option.some.inj H
   go_enter Tryd.func41, Tryd.ntmps41
   go_wp2_with (first | ((with_reducible refine gate_dst (N := 2) rfl ?_); refine box_event ?hg (N := 2) ?hd (cs := #[.int .i64 a0_0, .int .i64 a0_1]) (t := 42) ?hr ?_; (case hd => rfl); (case hg => rfl); (case hr => first | (go_simp; done) | (go_simp; rfl)); intro gb143 hg w6 hbox hb; have n0_ := am (below_step (by repeat (first | (with_reducible first | exact HB.out | apply bal | apply bdn | apply bd1) | exact HB.out)) hb); have n1_ := am (hbox); have n2_ := am ((by rw [hg]; exact (below_size (by repeat (first | (with_reducible first | exact HB.out | apply bal | apply bdn | apply bd1) | exact HB.out))) : w.heap.size ≤ gb143)); have n3_ := am ((by rw [hg]; exact (below_size (by repeat (first | (with_reducible first | exact HB.out | apply bal | apply bdn | apply bd1) | exact HB.out))) : w.heap.size ≤ gb143)); clear HB; have HB := n0_; have BK143 := n1_; have GW143 := n2_; have GE143 := n3_; clear n0_ n1_ n2_ n3_; clear hb hbox hg; have hcz7_0 : w6.cell? ⟨gb143, 0, none⟩ = some (.int .i64 a0_0) := (bcl BK143.out 0).trans rfl; have hcz7_1 : w6.cell? ⟨gb143, 1, none⟩ = some (.int .i64 a0_1) := (bcl BK143.out 1).trans rfl; have hfz7_0 := bfz BK143.out 0; have hfz7_1 := bfz BK143.out 1) | ((with_reducible refine gate_callee (f := 44) rfl ?_); refine goesL_ (some 6) rfl rfl Tryd.func44 (by kernel_rfl) rfl #[.agg #[.int .i64 a0_0, .int .i64 a0_1]] rfl (by (try simp only [List.map_toArray, List.map_cons, List.map_nil]); first | done | rfl | (simp only [List.length_drop, List.length_take]; rfl)) ?_; (with_reducible refine (span_Right.calls a0_0 a0_1 true _ A3.out).mono ?_); rintro e w8 ⟨rfl, hb⟩; refine ⟨_, rfl, ?_⟩; have n0_ := am (blk_below (g := gb143) (o := .cells #[.int .i64 a0_0, .int .i64 a0_1] 42 (0, 0)) (by (with_reducible repeat (first | refine kdn ?_ _ | refine kdr ?_ | refine kal ?_ _)); exact BK143.out) hb); have n1_ := am (below_step (by repeat (first | (with_reducible first | exact HB.out | apply bal | apply bdn | apply bd1 | refine bst ?_ GE143.out) | exact HB.out)) hb); clear BK143; clear HB; have BK143 := n0_; have HB := n1_; clear n0_ n1_; (try clear hb); (try clear hb2); (try clear hk); (try clear hi); have hcz9_0 : w8.cell? ⟨gb143, 0, none⟩ = some (.int .i64 a0_0) := (bcl BK143.out 0).trans rfl; have hcz9_1 : w8.cell? ⟨gb143, 1, none⟩ = some (.int .i64 a0_1) := (bcl BK143.out 1).trans rfl; have hfz9_0 := bfz BK143.out 0; have hfz9_1 := bfz BK143.out 1))
   go_ret
   exact ⟨by first | rfl | (simp [errW_none, errW_some] <;> rfl) | (simp [*, errW_none, errW_some] <;> rfl), by repeat (first | (with_reducible first | exact HB.out | apply bal | apply bdn | apply bd1 | refine bst ?_ GE143.out) | exact HB.out)⟩
  ·rw [if_neg c5] at H
   have c5b0 : decide (a0_0 ≤ a1) = false := decide_eq_false c5
   clear c5
   obtain rfl := Option.some.inj H
   go_enter Tryd.func41, Tryd.ntmps41
   go_wp2_with (first | ((with_reducible refine gate_dst (N := 2) rfl ?_); refine box_event ?hg (N := 2) ?hd (cs := #[.int .i64 a0_0, .int .i64 a0_1]) (t := 42) ?hr ?_; (case hd => rfl); (case hg => rfl); (case hr => first | (go_simp; done) | (go_simp; rfl)); intro gb143 hg w10 hbox hb; have n0_ := am (below_step (by repeat (first | (with_reducible first | exact HB.out | apply bal | apply bdn | apply bd1) | exact HB.out)) hb); have n1_ := am (hbox); have n2_ := am ((by rw [hg]; exact (below_size (by repeat (first | (with_reducible first | exact HB.out | apply bal | apply bdn | apply bd1) | exact HB.out))) : w.heap.size ≤ gb143)); have n3_ := am ((by rw [hg]; exact (below_size (by repeat (first | (with_reducible first | exact HB.out | apply bal | apply bdn | apply bd1) | exact HB.out))) : w.heap.size ≤ gb143)); clear HB; have HB := n0_; have BK143 := n1_; have GW143 := n2_; have GE143 := n3_; clear n0_ n1_ n2_ n3_; clear hb hbox hg; have hcz11_0 : w10.cell? ⟨gb143, 0, none⟩ = some (.int .i64 a0_0) := (bcl BK143.out 0).trans rfl; have hcz11_1 : w10.cell? ⟨gb143, 1, none⟩ = some (.int .i64 a0_1) := (bcl BK143.out 1).trans rfl; have hfz11_0 := bfz BK143.out 0; have hfz11_1 := bfz BK143.out 1) | ((with_reducible refine gate_callee (f := 44) rfl ?_); refine goesL_ (some 6) rfl rfl Tryd.func44 (by kernel_rfl) rfl #[.agg #[.int .i64 a0_0, .int .i64 a0_1]] rfl (by (try simp only [List.map_toArray, List.map_cons, List.map_nil]); first | done | rfl | (simp only [List.length_drop, List.length_take]; rfl)) ?_; (with_reducible refine (span_Right.calls a0_0 a0_1 true _ A3.out).mono ?_); rintro e w12 ⟨rfl, hb⟩; refine ⟨_, rfl, ?_⟩; have n0_ := am (blk_below (g := gb143) (o := .cells #[.int .i64 a0_0, .int .i64 a0_1] 42 (0, 0)) (by (with_reducible repeat (first | refine kdn ?_ _ | refine kdr ?_ | refine kal ?_ _)); exact BK143.out) hb); have n1_ := am (below_step (by repeat (first | (with_reducible first | exact HB.out | apply bal | apply bdn | apply bd1 | refine bst ?_ GE143.out) | exact HB.out)) hb); clear BK143; clear HB; have BK143 := n0_; have HB := n1_; clear n0_ n1_; (try clear hb); (try clear hb2); (try clear hk); (try clear hi); have hcz13_0 : w12.cell? ⟨gb143, 0, none⟩ = some (.int .i64 a0_0) := (bcl BK143.out 0).trans rfl; have hcz13_1 : w12.cell? ⟨gb143, 1, none⟩ = some (.int .i64 a0_1) := (bcl BK143.out 1).trans rfl; have hfz13_0 := bfz BK143.out 0; have hfz13_1 := bfz BK143.out 1))
   go_ret
   exact ⟨by first | rfl | (simp [errW_none, errW_some] <;> rfl) | (simp [*, errW_none, errW_some] <;> rfl), by repeat (first | (with_reducible first | exact HB.out | apply bal | apply bdn | apply bd1 | refine bst ?_ GE143.out) | exact HB.out)⟩
 ·replace c4 := Bool.eq_false_iff.mpr c4
  subst c4
  have H1 : (some false) = some r := by rw [if_neg (show ¬ (false = true) by decide)] at H; exact H
  clear H
  have H := H1
  clear H1
  obtain rfl := Option.some.inj H
  go_enter Tryd.func41, Tryd.ntmps41
  go_wp2_with (first | ((with_reducible refine gate_dst (N := 2) rfl ?_); refine box_event ?hg (N := 2) ?hd (cs := #[.int .i64 a0_0, .int .i64 a0_1]) (t := 42) ?hr ?_; (case hd => rfl); (case hg => rfl); (case hr => first | (go_simp; done) | (go_simp; rfl)); intro gb143 hg w14 hbox hb; have n0_ := am (below_step (by repeat (first | (with_reducible first | exact HB.out | apply bal | apply bdn | apply bd1) | exact HB.out)) hb); have n1_ := am (hbox); have n2_ := am ((by rw [hg]; exact (below_size (by repeat (first | (with_reducible first | exact HB.out | apply bal | apply bdn | apply bd1) | exact HB.out))) : w.heap.size ≤ gb143)); have n3_ := am ((by rw [hg]; exact (below_size (by repeat (first | (with_reducible first | exact HB.out | apply bal | apply bdn | apply bd1) | exact HB.out))) : w.heap.size ≤ gb143)); clear HB; have HB := n0_; have BK143 := n1_; have GW143 := n2_; have GE143 := n3_; clear n0_ n1_ n2_ n3_; clear hb hbox hg; have hcz15_0 : w14.cell? ⟨gb143, 0, none⟩ = some (.int .i64 a0_0) := (bcl BK143.out 0).trans rfl; have hcz15_1 : w14.cell? ⟨gb143, 1, none⟩ = some (.int .i64 a0_1) := (bcl BK143.out 1).trans rfl; have hfz15_0 := bfz BK143.out 0; have hfz15_1 := bfz BK143.out 1) | ((with_reducible refine gate_callee (f := 44) rfl ?_); refine goesL_ (some 6) rfl rfl Tryd.func44 (by kernel_rfl) rfl #[.agg #[.int .i64 a0_0, .int .i64 a0_1]] rfl (by (try simp only [List.map_toArray, List.map_cons, List.map_nil]); first | done | rfl | (simp only [List.length_drop, List.length_take]; rfl)) ?_; (with_reducible refine (span_Right.calls a0_0 a0_1 false _ A3.out).mono ?_); rintro e w16 ⟨rfl, hb⟩; refine ⟨_, rfl, ?_⟩; have n0_ := am (blk_below (g := gb143) (o := .cells #[.int .i64 a0_0, .int .i64 a0_1] 42 (0, 0)) (by (with_reducible repeat (first | refine kdn ?_ _ | refine kdr ?_ | refine kal ?_ _)); exact BK143.out) hb); have n1_ := am (below_step (by repeat (first | (with_reducible first | exact HB.out | apply bal | apply bdn | apply bd1 | refine bst ?_ GE143.out) | exact HB.out)) hb); clear BK143; clear HB; have BK143 := n0_; have HB := n1_; clear n0_ n1_; (try clear hb); (try clear hb2); (try clear hk); (try clear hi)))
  go_ret
  exact ⟨by first | rfl | (simp [errW_none, errW_some] <;> rfl) | (simp [*, errW_none, errW_some] <;> rfl), by repeat (first | (with_reducible first | exact HB.out | apply bal | apply bdn | apply bd1 | refine bst ?_ GE143.out) | exact HB.out)⟩

/-! ### ranges_Set_Has: function 24 -/
def ranges_Set_Has.f (l0_0 : List (S42)) (a1 : Int) : Option (Bool) := (ranges_Set_from.f l0_0 a1).bind fun t146 => (if t146 < (l0_0.length : Int) then (if 0 ≤ t146 then ((span_Has.f ((rd_T42 l0_0 t146).f0) ((rd_T42 l0_0 t146).f1) a1).bind fun t148 => (some t148)) else (none)) else (some false))
set_option maxHeartbeats 8000000 in
set_option maxRecDepth 100000 in
theorem ranges_Set_Has.calls (A0_0 : Option Addr) (c0_0 : Nat) (l0_0 : List (S42)) (a1 : Int) (r : Bool) (w : World) (hr0_0 : Kd.C k42 w A0_0 l0_0.length l0_0) (hc0_0 : l0_0.length ≤ c0_0) (h : ranges_Set_Has.f l0_0 a1 = some r) :
  Calls Tryd.prog 24 #[.agg #[.slice A0_0 l0_0.length c0_0], .int .i64 a1] w fun e w' => e = .returned (.bool r) ∧ Below w.heap.size w w' := by
 have hu29 := Tryd.underlying29
 have hu42 := Tryd.underlying42
 have HR0_0 := am hr0_0
 have HC0_0 := am hc0_0
 clear hr0_0 hc0_0
 have HB := am (Below.refl w.heap.size w)
 have H : ((ranges_Set_from.f l0_0 a1).bind fun t146 => (if t146 < (l0_0.length : Int) then (if 0 ≤ t146 then ((span_Has.f ((rd_T42 l0_0 t146).f0) ((rd_T42 l0_0 t146).f1) a1).bind fun t148 => (some t148)) else (none)) else (some false))) = some r := h
 clear h
 replace H := Option.bind_eq_some_iff.mp H
 obtain ⟨t146, A30, H⟩ := H
 replace H : (if t146 < (l0_0.length : Int) then (if 0 ≤ t146 then ((span_Has.f ((rd_T42 l0_0 t146).f0) ((rd_T42 l0_0 t146).f1) a1).bind fun t148 => (some t148)) else (none)) else (some false)) = some r := H
 have A3 := am A30
 clear A30
 by_cases c4 : t146 < (l0_0.length : Int)
 ·rw [if_pos c4] at H
  have c4b0 : decide (t146 < (l0_0.length : Int)) = true := decide_eq_true c4
  clear c4
  by_cases c5 : 0 ≤ t146
  ·rw [if_pos c5] at H
   have c5b0 : decide (0 ≤ t146) = true := decide_eq_true c5
   clear c5
   replace H := Option.bind_eq_some_iff.mp H
   obtain ⟨t148, A60, H⟩ := H
   replace H : (some t148) = some r := H
   have A6 := am A60
   clear A60
   obtain rfl := Option.some.inj H
   go_enter Tryd.func24, Tryd.ntmps24
   go_wp2_with (first | ((with_reducible refine gate_dst (N := 2) rfl ?_); refine box_event ?hg (N := 2) ?hd (cs := #[.slice A0_0 l0_0.length c0_0]) (t := 29) ?hr ?_; (case hd => rfl); (case hg => rfl); (case hr => first | (go_simp; done) | (go_simp; rfl)); intro gb145 hg w7 hbox hb; have n0_ := am (below_step (by repeat (first | (with_reducible first | exact HB.out | apply bal | apply bdn | apply bd1) | exact HB.out)) hb); have n1_ := am (hbox); have n2_ := am ((by rw [hg]; exact (below_size (by repeat (first | (with_reducible first | exact HB.out | apply bal | apply bdn | apply bd1) | exact HB.out))) : w.heap.size ≤ gb145)); have n3_ := am ((by rw [hg]; exact (below_size (by repeat (first | (with_reducible first | exact HB.out | apply bal | apply bdn | apply bd1) | exact HB.out))) : w.heap.size ≤ gb145)); clear HB; have HB := n0_; have BK145 := n1_; have GW145 := n2_; have GE145 := n3_; clear n0_ n1_ n2_ n3_; clear hb hbox hg; have hcz8_0 : w7.cell? ⟨gb145, 0, none⟩ = some (.slice A0_0 l0_0.length c0_0) := (bcl BK145.out 0).trans rfl; have hfz8_0 := bfz BK145.out 0) | ((with_reducible refine gate_callee (f := 40) rfl ?_); refine goesL_ (some 8) rfl rfl Tryd.func40 (by kernel_rfl) rfl #[.agg #[.slice A0_0 l0_0.length c0_0], .int .i64 a1] rfl (by (try simp only [List.map_toArray, List.map_cons, List.map_nil]); first | done | rfl | (simp only [List.length_drop, List.length_take]; rfl)) ?_; (with_reducible refine (ranges_Set_from.calls _ _ l0_0 a1 t146 _ ?side1 ?side2 A3.out).mono ?_); (case side1 => repeat (first | exact (Kd.C_below HR0_0.out HB.out) | (with_reducible refine Kd.C_alloc ?_ _) | (with_reducible refine Kd.C_drewN ?_ _) | (with_reducible refine Kd.C_drew ?_))); (case side2 => exact HC0_0.out); rintro e w9 ⟨rfl, hb⟩; refine ⟨_, rfl, ?_⟩; have n0_ := am (blk_below (g := gb145) (o := .cells #[.slice A0_0 l0_0.length c0_0] 29 (0, 0)) (by (with_reducible repeat (first | refine kdn ?_ _ | refine kdr ?_ | refine kal ?_ _)); exact BK145.out) hb); have n1_ := am (below_step (by repeat (first | (with_reducible first | exact HB.out | apply bal | apply bdn | apply bd1 | refine bst ?_ GE145.out) | exact HB.out)) hb); clear BK145; clear HB; have BK145 := n0_; have HB := n1_; clear n0_ n1_; (try clear hb); (try clear hb2); (try clear hk); (try clear hi); have hcz10_0 : w9.cell? ⟨gb145, 0, none⟩ = some (.slice A0_0 l0_0.length c0_0) := (bcl BK145.out 0).trans rfl; have hfz10_0 := bfz BK145.out 0; have p147 : 0 ≤ (t146 : Int) := of_decide_eq_true (by first | (with_reducible assumption) | assumption); have q147 : t146 < (l0_0.length : Int) := of_decide_eq_true (by first | (with_reducible assumption) | assumption); obtain ⟨ad147, e147, hx147_0, hx147_1⟩ := at_T42 HR0_0.out t146 p147 q147; cases e147; replace hx147_0 := (HB.out.cell (World.block_lt_of_cell? w _ hx147_0)).trans hx147_0; replace hx147_1 := (HB.out.cell (World.block_lt_of_cell? w _ hx147_1)).trans hx147_1; replace p147 := eq_true p147; replace q147 := eq_true q147) | (go_at_call 41; (with_reducible refine (span_Has.calls ((rd_T42 l0_0 t146).f0) ((rd_T42 l0_0 t146).f1) a1 t148 _ A6.out).mono ?_); rintro e w11 ⟨rfl, hb⟩; have n0_ := am (blk_below (g := gb145) (o := .cells #[.slice (some ad147) l0_0.length c0_0] 29 (0, 0)) (by (with_reducible repeat (first | refine kdn ?_ _ | refine kdr ?_ | refine kal ?_ _)); exact BK145.out) hb); have n1_ := am (below_step (by repeat (first | (with_reducible first | exact HB.out | apply bal | apply bdn | apply bd1 | refine bst ?_ GE145.out) | exact HB.out)) hb); clear BK145; clear HB; have BK145 := n0_; have HB := n1_; clear n0_ n1_; (try clear hb); (try clear hb2); (try clear hk); (try clear hi)))
   go_ret
   exact ⟨by first | rfl | (simp [errW_none, errW_some] <;> rfl) | (simp [*, errW_none, errW_some] <;> rfl), by repeat (first | (with_reducible first | exact HB.out | apply bal | apply bdn | apply bd1 | refine bst ?_ GE145.out) | exact HB.out)⟩
  ·rw [if_neg c5] at H
   exact absurd H (by simp)
 ·rw [if_neg c4] at H
  have c4b0 : decide (t146 < (l0_0.length : Int)) = false := decide_eq_false c4
  clear c4
  obtain rfl := Option.some.inj H
  go_enter Tryd.func24, Tryd.ntmps24
  go_wp2_with (first | ((with_reducible refine gate_dst (N := 2) rfl ?_); refine box_event ?hg (N := 2) ?hd (cs := #[.slice A0_0 l0_0.length c0_0]) (t := 29) ?hr ?_; (case hd => rfl); (case hg => rfl); (case hr => first | (go_simp; done) | (go_simp; rfl)); intro gb145 hg w12 hbox hb; have n0_ := am (below_step (by repeat (first | (with_reducible first | exact HB.out | apply bal | apply bdn | apply bd1) | exact HB.out)) hb); have n1_ := am (hbox); have n2_ := am ((by rw [hg]; exact (below_size (by repeat (first | (with_reducible first | exact HB.out | apply bal | apply bdn | apply bd1) | exact HB.out))) : w.heap.size ≤ gb145)); have n3_ := am ((by rw [hg]; exact (below_size (by repeat (first | (with_reducible first | exact HB.out | apply bal | apply bdn | apply bd1) | exact HB.out))) : w.heap.size ≤ gb145)); clear HB; have HB := n0_; have BK145 := n1_; have GW145 := n2_; have GE145 := n3_; clear n0_ n1_ n2_ n3_; clear hb hbox hg; have hcz13_0 : w12.cell? ⟨gb145, 0, none⟩ = some (.slice A0_0 l0_0.length c0_0) := (bcl BK145.out 0).trans rfl; have hfz13_0 := bfz BK145.out 0) | ((with_reducible refine gate_callee (f := 40) rfl ?_); refine goesL_ (some 8) rfl rfl Tryd.func40 (by kernel_rfl) rfl #[.agg #[.slice A0_0 l0_0.length c0_0], .int .i64 a1] rfl (by (try simp only [List.map_toArray, List.map_cons, List.map_nil]); first | done | rfl | (simp only [List.length_drop, List.length_take]; rfl)) ?_; (with_reducible refine (ranges_Set_from.calls _ _ l0_0 a1 t146 _ ?side1 ?side2 A3.out).mono ?_); (case side1 => repeat (first | exact (Kd.C_below HR0_0.out HB.out) | (with_reducible refine Kd.C_alloc ?_ _) | (with_reducible refine Kd.C_drewN ?_ _) | (with_reducible refine Kd.C_drew ?_))); (case side2 => exact HC0_0.out); rintro e w14 ⟨rfl, hb⟩; refine ⟨_, rfl, ?_⟩; have n0_ := am (blk_below (g := gb145) (o := .cells #[.slice A0_0 l0_0.length c0_0] 29 (0, 0)) (by (with_reducible repeat (first | refine kdn ?_ _ | refine kdr ?_ | refine kal ?_ _)); exact BK145.out) hb); have n1_ := am (below_step (by repeat (first | (with_reducible first | exact HB.out | apply bal | apply bdn | apply bd1 | refine bst ?_ GE145.out) | exact HB.out)) hb); clear BK145; clear HB; have BK145 := n0_; have HB := n1_; clear n0_ n1_; (try clear hb); (try clear hb2); (try clear hk); (try clear hi); have hcz15_0 : w14.cell? ⟨gb145, 0, none⟩ = some (.slice A0_0 l0_0.length c0_0) := (bcl BK145.out 0).trans rfl; have hfz15_0 := bfz BK145.out 0))
  go_ret
  exact ⟨by first | rfl | (simp [errW_none, errW_some] <;> rfl) | (simp [*, errW_none, errW_some] <;> rfl), by repeat (first | (with_reducible first | exact HB.out | apply bal | apply bdn | apply bd1 | refine bst ?_ GE145.out) | exact HB.out)⟩

/-! ### ranges_Set_Len: function 20 -/
def ranges_Set_Len.l0 : Nat → Int → List (S42) → Int → Int → Option (Int)
 | 0, _, _, _, _ => none
 | k + 1, x3, x7, x8, x9 => if x9 < x8 then (if 0 ≤ x9 then (if x9 < (x7.length : Int) then (if ((rd_T42 x7 x9).f1) = 4611686018427387904 then (some 4611686018427387904) else (ranges_Set_Len.l0 k (wrap64 (x3 + (wrap64 (((rd_T42 x7 x9).f1) - ((rd_T42 x7 x9).f0))))) x7 x8 (wrap64 (x9 + 1)))) else (none)) else (none)) else (some x3)
def ranges_Set_Len.f (k : Nat) (l0_0 : List (S42)) : Option (Int) := ranges_Set_Len.l0 k 0 l0_0 (l0_0.length : Int) 0
theorem ranges_Set_Len.mono_l : ∀ k, (∀ y0 y1 y2 y3, LeO (ranges_Set_Len.l0 k y0 y1 y2 y3) (ranges_Set_Len.l0 (k + 1) y0 y1 y2 y3))
 | 0 => fun _ _ _ _ r h => by simp [ranges_Set_Len.l0] at h
 | k + 1 => by
  have ih0 := ranges_Set_Len.mono_l k
  ·intro y0 y1 y2 y3
   unfold ranges_Set_Len.l0
   repeat' first
   | (with_reducible exact ih0 _ _ _ _)
   | (with_reducible exact LeO.refl _)
   | (with_reducible exact LeO.none _)
   | (with_reducible refine LeO.ite ?_ ?_)
   | (with_reducible refine LeO.bind ?_ (fun _ => ?_))
   | exact ih0 _ _ _ _
   | exact LeO.none _
   | refine LeO.ite ?_ ?_
   | refine LeO.bind ?_ (fun _ => ?_)
theorem ranges_Set_Len.mono : ∀ a0 k, LeO (ranges_Set_Len.f k a0) (ranges_Set_Len.f (k + 1) a0) := by
 intro a0 k
 have ih0 := ranges_Set_Len.mono_l k
 unfold ranges_Set_Len.f
 repeat' first
   | (with_reducible exact ih0 _ _ _ _)
   | (with_reducible exact LeO.refl _)
   | (with_reducible exact LeO.none _)
   | (with_reducible refine LeO.ite ?_ ?_)
   | (with_reducible refine LeO.bind ?_ (fun _ => ?_))
   | exact ih0 _ _ _ _
   | exact LeO.none _
   | refine LeO.ite ?_ ?_
   | refine LeO.bind ?_ (fun _ => ?_)
set_option maxHeartbeats 8000000 in
set_option maxRecDepth 100000 in
theorem ranges_Set_Len.calls (k : Nat) (A0_0 : Option Addr) (c0_0 : Nat) (l0_0 : List (S42)) (r : Int) (w : World) (hr0_0 : Kd.C k42 w A0_0 l0_0.length l0_0) (hc0_0 : l0_0.length ≤ c0_0) (h : ranges_Set_Len.f k l0_0 = some r) :
  Calls Tryd.prog 20 #[.agg #[.slice A0_0 l0_0.length c0_0]] w fun e w' => e = .returned (.int .i64 r) ∧ Below w.heap.size w w' := by
 have hu29 := Tryd.underlying29
 have hu42 := Tryd.underlying42
 have HR0_0 := am hr0_0
 have HC0_0 := am hc0_0
 clear hr0_0 hc0_0
 have HB := am (Below.refl w.heap.size w)
 have H : (ranges_Set_Len.l0 k 0 l0_0 (l0_0.length : Int) 0) = some r := h
 clear h
 have H' := am H
 clear H
 go_enter Tryd.func20, Tryd.ntmps20
 go_wp2_with (first | ((with_reducible refine gate_dst (N := 1) rfl ?_); refine box_event ?hg (N := 1) ?hd (cs := #[.slice A0_0 l0_0.length c0_0]) (t := 29) ?hr ?_; (case hd => rfl); (case hg => rfl); (case hr => first | (go_simp; done) | (go_simp; rfl)); intro gb149 hg w2 hbox hb; have n0_ := am (below_step (by repeat (first | (with_reducible first | exact HB.out | apply bal | apply bdn | apply bd1) | exact HB.out)) hb); have n1_ := am (hbox); have n2_ := am ((by rw [hg]; exact (below_size (by repeat (first | (with_reducible first | exact HB.out | apply bal | apply bdn | apply bd1) | exact HB.out))) : w.heap.size ≤ gb149)); have n3_ := am ((by rw [hg]; exact (below_size (by repeat (first | (with_reducible first | exact HB.out | apply bal | apply bdn | apply bd1) | exact HB.out))) : w.heap.size ≤ gb149)); clear HB; have HB := n0_; have BK149 := n1_; have GW149 := n2_; have GE149 := n3_; clear n0_ n1_ n2_ n3_; clear hb hbox hg; have hcz3_0 : w2.cell? ⟨gb149, 0, none⟩ = some (.slice A0_0 l0_0.length c0_0) := (bcl BK149.out 0).trans rfl; have hfz3_0 := bfz BK149.out 0))
 go_loopg [3, 9] k (fun kq v3 v9 w' => ∃ (x3_1 : Int) (x9_1 : Int), v3 = .int .i64 x3_1 ∧ v9 = .int .i64 x9_1 ∧ Aside0 (ranges_Set_Len.l0 kq x3_1 l0_0 (l0_0.length : Int) x9_1 = some r) ∧ Aside0 (kq ≤ k) ∧ Aside0 (w'.heap[gb149]? = some (.cells #[(.slice A0_0 l0_0.length c0_0)] 29 (0, 0))) ∧ Aside0 (Below w.heap.size w w'))
 case atStart => exact ⟨(0), (0), (by first | rfl | (simp; done) | (simp [*]; done)), (by first | rfl | (simp; done) | (simp [*]; done)), H', ⟨Nat.le_refl _⟩, ⟨by (with_reducible repeat (first | refine kdn ?_ _ | refine kdr ?_ | refine kal ?_ _)); exact BK149.out⟩, ⟨by repeat (first | (with_reducible first | exact HB.out | apply bal | apply bdn | apply bd1 | refine bst ?_ GE149.out) | exact HB.out)⟩⟩
 case round =>
  clear H'
  try clear c2
  try clear p2
  try clear hcz3_0
  try clear hfz3_0
  obtain ⟨x3_1, x9_1, rfl, rfl, HA, HK1, BK149, HB⟩ := hrel
  cases gk with
  | zero => exact absurd HA.out (by simp [ranges_Set_Len.l0])
  | succ k1 =>
   have H := HA.out
   clear HA
   simp only [ranges_Set_Len.l0] at H
   by_cases c4 : x9_1 < (l0_0.length : Int)
   ·rw [if_pos c4] at H
    have c4b0 : decide (x9_1 < (l0_0.length : Int)) = true := decide_eq_true c4
    clear c4
    by_cases c5 : 0 ≤ x9_1
    ·rw [if_pos c5] at H
     have c5b0 : decide (0 ≤ x9_1) = true := decide_eq_true c5
     clear c5
     by_cases c6 : x9_1 < (l0_0.length : Int)
     ·rw [if_pos c6] at H
      have c6b0 : decide (x9_1 < (l0_0.length : Int)) = true := decide_eq_true c6
      clear c6
      by_cases c7 : ((rd_T42 l0_0 x9_1).f1) = 4611686018427387904
      ·rw [if_pos c7] at H
       have c7b0 : (((rd_T42 l0_0 x9_1).f1) == 4611686018427387904) = true := beq_iff_eq.mpr c7
       have c7b1 : (((rd_T42 l0_0 x9_1).f1) != 4611686018427387904) = false := bne_eq_false_iff_eq.mpr c7
       clear c7
       obtain rfl := Option.some.inj H
       have p150 : 0 ≤ (x9_1 : Int) := of_decide_eq_true (by first | (with_reducible assumption) | assumption)
       have q150 : x9_1 < (l0_0.length : Int) := of_decide_eq_true (by first | (with_reducible assumption) | assumption)
       obtain ⟨ad150, e150, hx150_0, hx150_1⟩ := at_T42 HR0_0.out x9_1 p150 q150
       cases e150
       replace hx150_0 := (HB.out.cell (World.block_lt_of_cell? w _ hx150_0)).trans hx150_0
       replace hx150_1 := (HB.out.cell (World.block_lt_of_cell? w _ hx150_1)).trans hx150_1
       replace p150 := eq_true p150
       replace q150 := eq_true q150
       go_wp2_with (first | ((with_reducible refine gate_dst (N := 5) rfl ?_); refine box_event ?hg (N := 5) ?hd (cs := #[.int .i64 0, .int .i64 0]) (t := 42) ?hr ?_; (case hd => rfl); (case hg => rfl); (case hr => first | (go_simp; done) | (go_simp; rfl)); intro gb151 hg w8 hbox hb; have n0_ := am (blk_below (g := gb149) (o := .cells #[.slice (some ad150) l0_0.length c0_0] 29 (0, 0)) (by (with_reducible repeat (first | refine kdn ?_ _ | refine kdr ?_ | refine kal ?_ _)); exact BK149.out) hb); have n1_ := am (below_step (by repeat (first | (with_reducible first | exact HB.out | apply bal | apply bdn | apply bd1 | refine bst ?_ GE149.out) | exact HB.out)) hb); have n2_ := am (hbox); have n3_ := am ((by rw [hg]; exact (below_size (by repeat (first | (with_reducible first | exact HB.out | apply bal | apply bdn | apply bd1 | refine bst ?_ GE149.out) | exact HB.out))) : w.heap.size ≤ gb151)); have n4_ := am ((by rw [hg]; exact (below_size (by repeat (first | (with_reducible first | exact HB.out | apply bal | apply bdn | apply bd1 | refine bst ?_ GE149.out) | exact HB.out))) : w.heap.size ≤ gb151)); have n5_ := am ((by rw [hg]; exact Nat.ne_of_lt (blk_lt (g := gb149) (o := .cells #[.slice (some ad150) l0_0.length c0_0] 29 (0, 0)) (by (with_reducible repeat (first | refine kdn ?_ _ | refine kdr ?_ | refine kal ?_ _)); exact BK149.out)) : gb149 ≠ gb151)); have n6_ := am ((by rw [hg]; exact Nat.ne_of_gt (blk_lt (g := gb149) (o := .cells #[.slice (some ad150) l0_0.length c0_0] 29 (0, 0)) (by (with_reducible repeat (first | refine kdn ?_ _ | refine kdr ?_ | refine kal ?_ _)); exact BK149.out)) : gb151 ≠ gb149)); clear BK149; clear HB; have BK149 := n0_; have HB := n1_; have BK151 := n2_; have GW151 := n3_; have GE151 := n4_; have NB149_151 := n5_; have NB151_149 := n6_; clear n0_ n1_ n2_ n3_ n4_ n5_ n6_; clear hb hbox hg; have hnb9 := NB151_149.out; have hnc9 := NB149_151.out; have hcz10_0 : w8.cell? ⟨gb151, 0, none⟩ = some (.int .i64 0) := (bcl BK151.out 0).trans rfl; have hcz10_1 : w8.cell? ⟨gb151, 1, none⟩ = some (.int .i64 0) := (bcl BK151.out 1).trans rfl; have hfz10_0 := bfz BK151.out 0; have hfz10_1 := bfz BK151.out 1))
       go_ret
       exact ⟨by first | rfl | (simp [errW_none, errW_some] <;> rfl) | (simp [*, errW_none, errW_some] <;> rfl), by repeat (first | (with_reducible first | exact HB.out | apply bal | apply bdn | apply bd1 | refine bst ?_ GE149.out | refine bst ?_ GE151.out) | exact HB.out)⟩
      ·rw [if_neg c7] at H
       have c7b0 : (((rd_T42 l0_0 x9_1).f1) == 4611686018427387904) = false := beq_eq_false_iff_ne.mpr c7
       have c7b1 : (((rd_T42 l0_0 x9_1).f1) != 4611686018427387904) = true := bne_iff_ne.mpr c7
       have H' := am H
       clear H
       have p150 : 0 ≤ (x9_1 : Int) := of_decide_eq_true (by first | (with_reducible assumption) | assumption)
       have q150 : x9_1 < (l0_0.length : Int) := of_decide_eq_true (by first | (with_reducible assumption) | assumption)
       obtain ⟨ad150, e150, hx150_0, hx150_1⟩ := at_T42 HR0_0.out x9_1 p150 q150
       cases e150
       replace hx150_0 := (HB.out.cell (World.block_lt_of_cell? w _ hx150_0)).trans hx150_0
       replace hx150_1 := (HB.out.cell (World.block_lt_of_cell? w _ hx150_1)).trans hx150_1
       replace p150 := eq_true p150
       replace q150 := eq_true q150
       go_wp2_with (first | ((with_reducible refine gate_dst (N := 5) rfl ?_); refine box_event ?hg (N := 5) ?hd (cs := #[.int .i64 0, .int .i64 0]) (t := 42) ?hr ?_; (case hd => rfl); (case hg => rfl); (case hr => first | (go_simp; done) | (go_simp; rfl)); intro gb151 hg w11 hbox hb; have n0_ := am (blk_below (g := gb149) (o := .cells #[.slice (some ad150) l0_0.length c0_0] 29 (0, 0)) (by (with_reducible repeat (first | refine kdn ?_ _ | refine kdr ?_ | refine kal ?_ _)); exact BK149.out) hb); have n1_ := am (below_step (by repeat (first | (with_reducible first | exact HB.out | apply bal | apply bdn | apply bd1 | refine bst ?_ GE149.out) | exact HB.out)) hb); have n2_ := am (hbox); have n3_ := am ((by rw [hg]; exact (below_size (by repeat (first | (with_reducible first | exact HB.out | apply bal | apply bdn | apply bd1 | refine bst ?_ GE149.out) | exact HB.out))) : w.heap.size ≤ gb151)); have n4_ := am ((by rw [hg]; exact (below_size (by repeat (first | (with_reducible first | exact HB.out | apply bal | apply bdn | apply bd1 | refine bst ?_ GE149.out) | exact HB.out))) : w.heap.size ≤ gb151)); have n5_ := am ((by rw [hg]; exact Nat.ne_of_lt (blk_lt (g := gb149) (o := .cells #[.slice (some ad150) l0_0.length c0_0] 29 (0, 0)) (by (with_reducible repeat (first | refine kdn ?_ _ | refine kdr ?_ | refine kal ?_ _)); exact BK149.out)) : gb149 ≠ gb151)); have n6_ := am ((by rw [hg]; exact Nat.ne_of_gt (blk_lt (g := gb149) (o := .cells #[.slice (some ad150) l0_0.length c0_0] 29 (0, 0)) (by (with_reducible repeat (first | refine kdn ?_ _ | refine kdr ?_ | refine kal ?_ _)); exact BK149.out)) : gb151 ≠ gb149)); clear BK149; clear HB; have BK149 := n0_; have HB := n1_; have BK151 := n2_; have GW151 := n3_; have GE151 := n4_; have NB149_151 := n5_; have NB151_149 := n6_; clear n0_ n1_ n2_ n3_ n4_ n5_ n6_; clear hb hbox hg; have hnb12 := NB151_149.out; have hnc12 := NB149_151.out; have hcz13_0 : w11.cell? ⟨gb151, 0, none⟩ = some (.int .i64 0) := (bcl BK151.out 0).trans rfl; have hcz13_1 : w11.cell? ⟨gb151, 1, none⟩ = some (.int .i64 0) := (bcl BK151.out 1).trans rfl; have hfz13_0 := bfz BK151.out 0; have hfz13_1 := bfz BK151.out 1))
       go_roundg k1
       case measure => have := HK1.out; omega
       case rel => exact ⟨(wrap64 (x3_1 + (wrap64 (((rd_T42 l0_0 x9_1).f1) - ((rd_T42 l0_0 x9_1).f0))))), (wrap64 (x9_1 + 1)), (by first | rfl | (simp; done) | (simp [*]; done)), (by first | rfl | (simp; done) | (simp [*]; done)), H', ⟨by have := HK1.out; omega⟩, ⟨by (with_reducible repeat (first | refine kdn ?_ _ | refine kdr ?_ | refine kal ?_ _)); refine blk_far ?_ NB149_151.out _; (with_reducible repeat (first | refine kdn ?_ _ | refine kdr ?_ | refine kal ?_ _)); refine blk_far ?_ NB149_151.out _; (with_reducible repeat (first | refine kdn ?_ _ | refine kdr ?_ | refine kal ?_ _)); exact BK149.out⟩, ⟨by repeat (first | (with_reducible first | exact HB.out | apply bal | apply bdn | apply bd1 | refine bst ?_ GE149.out | refine bst ?_ GE151.out) | exact HB.out)⟩⟩
     ·rw [if_neg c6] at H
      exact absurd H (by simp)
    ·rw [if_neg c5] at H
     exact absurd H (by simp)
   ·rw [if_neg c4] at H
    have c4b0 : decide (x9_1 < (l0_0.length : Int)) = false := decide_eq_false c4
    clear c4
    obtain rfl := Option.some.inj H
    go_wp2
    go_ret
    exact ⟨by first | rfl | (simp [errW_none, errW_some] <;> rfl) | (simp [*, errW_none, errW_some] <;> rfl), by repeat (first | (with_reducible first | exact HB.out | apply bal | apply bdn | apply bd1 | refine bst ?_ GE149.out) | exact HB.out)⟩

/-! ### fence_empty: function 35 -/
def fence_empty.f (k : Nat) (l0_0 : List (S42)) : Option (Bool) := (ranges_Set_Len.f k l0_0).bind fun t153 => (some (t153 == 0))
theorem fence_empty.mono : ∀ a0 k, LeO (fence_empty.f k a0) (fence_empty.f (k + 1) a0) := by
 intro a0 k
 unfold fence_empty.f
 repeat' first
   | (with_reducible exact ranges_Set_Len.mono _ _)
   | (with_reducible exact LeO.refl _)
   | (with_reducible exact LeO.none _)
   | (with_reducible refine LeO.ite ?_ ?_)
   | (with_reducible refine LeO.bind ?_ (fun _ => ?_))
   | exact ranges_Set_Len.mono _ _
   | exact LeO.none _
   | refine LeO.ite ?_ ?_
   | refine LeO.bind ?_ (fun _ => ?_)
set_option maxHeartbeats 8000000 in
set_option maxRecDepth 100000 in
theorem fence_empty.calls (k : Nat) (A0_0 : Option Addr) (c0_0 : Nat) (l0_0 : List (S42)) (r : Bool) (w : World) (hr0_0 : Kd.C k42 w A0_0 l0_0.length l0_0) (hc0_0 : l0_0.length ≤ c0_0) (h : fence_empty.f k l0_0 = some r) :
  Calls Tryd.prog 35 #[.agg #[.slice A0_0 l0_0.length c0_0]] w fun e w' => e = .returned (.bool r) ∧ Below w.heap.size w w' := by
 have hu29 := Tryd.underlying29
 have HR0_0 := am hr0_0
 have HC0_0 := am hc0_0
 clear hr0_0 hc0_0
 have HB := am (Below.refl w.heap.size w)
 have H : ((ranges_Set_Len.f k l0_0).bind fun t153 => (some (t153 == 0))) = some r := h
 clear h
 replace H := Option.bind_eq_some_iff.mp H
 obtain ⟨t153, A20, H⟩ := H
 replace H : (some (t153 == 0)) = some r := H
 have A2 := am A20
 clear A20
 obtain rfl := Option.some.inj H
 go_enter Tryd.func35, Tryd.ntmps35
 go_wp2_with (first | ((with_reducible refine gate_dst (N := 1) rfl ?_); refine box_event ?hg (N := 1) ?hd (cs := #[.slice A0_0 l0_0.length c0_0]) (t := 29) ?hr ?_; (case hd => rfl); (case hg => rfl); (case hr => first | (go_simp; done) | (go_simp; rfl)); intro gb152 hg w3 hbox hb; have n0_ := am (below_step (by repeat (first | (with_reducible first | exact HB.out | apply bal | apply bdn | apply bd1) | exact HB.out)) hb); have n1_ := am (hbox); have n2_ := am ((by rw [hg]; exact (below_size (by repeat (first | (with_reducible first | exact HB.out | apply bal | apply bdn | apply bd1) | exact HB.out))) : w.heap.size ≤ gb152)); have n3_ := am ((by rw [hg]; exact (below_size (by repeat (first | (with_reducible first | exact HB.out | apply bal | apply bdn | apply bd1) | exact HB.out))) : w.heap.size ≤ gb152)); clear HB; have HB := n0_; have BK152 := n1_; have GW152 := n2_; have GE152 := n3_; clear n0_ n1_ n2_ n3_; clear hb hbox hg; have hcz4_0 : w3.cell? ⟨gb152, 0, none⟩ = some (.slice A0_0 l0_0.length c0_0) := (bcl BK152.out 0).trans rfl; have hfz4_0 := bfz BK152.out 0) | ((with_reducible refine gate_callee (f := 20) rfl ?_); refine goesL_ (some 4) rfl rfl Tryd.func20 (by kernel_rfl) rfl #[.agg #[.slice A0_0 l0_0.length c0_0]] rfl (by (try simp only [List.map_toArray, List.map_cons, List.map_nil]); first | done | rfl | (simp only [List.length_drop, List.length_take]; rfl)) ?_; (with_reducible refine (ranges_Set_Len.calls k _ _ l0_0 t153 _ ?side1 ?side2 A2.out).mono ?_); (case side1 => repeat (first | exact (Kd.C_below HR0_0.out HB.out) | (with_reducible refine Kd.C_alloc ?_ _) | (with_reducible refine Kd.C_drewN ?_ _) | (with_reducible refine Kd.C_drew ?_))); (case side2 => exact HC0_0.out); rintro e w5 ⟨rfl, hb⟩; refine ⟨_, rfl, ?_⟩; have n0_ := am (blk_below (g := gb152) (o := .cells #[.slice A0_0 l0_0.length c0_0] 29 (0, 0)) (by (with_reducible repeat (first | refine kdn ?_ _ | refine kdr ?_ | refine kal ?_ _)); exact BK152.out) hb); have n1_ := am (below_step (by repeat (first | (with_reducible first | exact HB.out | apply bal | apply bdn | apply bd1 | refine bst ?_ GE152.out) | exact HB.out)) hb); clear BK152; clear HB; have BK152 := n0_; have HB := n1_; clear n0_ n1_; (try clear hb); (try clear hb2); (try clear hk); (try clear hi)))
 go_ret
 exact ⟨by first | rfl | (simp [errW_none, errW_some] <;> rfl) | (simp [*, errW_none, errW_some] <;> rfl), by repeat (first | (with_reducible first | exact HB.out | apply bal | apply bdn | apply bd1 | refine bst ?_ GE152.out) | exact HB.out)⟩

end Go.Proofs.YtbgojgoejlhgeaaDoor.Pr
