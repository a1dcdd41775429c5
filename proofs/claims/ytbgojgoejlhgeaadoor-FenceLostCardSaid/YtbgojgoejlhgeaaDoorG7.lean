-- PRINTED by print.py (a twelfth state) out of the translation, parted. Not trusted: Lean checks it.
import Derived.Test.YtbgojgoejlhgeaaDoorG6
namespace Go.Proofs.YtbgojgoejlhgeaaDoor.Pr
open Go.RowKit Go.Proofs.YtbgojgoejlhgeaaDoorW.PrintWords Go.Proofs.YtbgojgoejlhgeaaDoorW.PrintLast Go.Proofs.YtbgojgoejlhgeaaDoorW.PrintMore
attribute [local go_sem] max2_int min2_int max_two min_two max_three min_three max_four min_four
set_option linter.unusedVariables false
set_option linter.unusedSimpArgs false

/-! ### r02_Less: function 53 -/
def r02_Less.f (k : Nat) (l0 : List (S42)) (l1 : List (S42)) : Option ((List (S42))) := (r02_of.f k l0 l1 3).bind fun t234 => (some t234)
theorem r02_Less.mono : ∀ a0 a1 k, LeO (r02_Less.f k a0 a1) (r02_Less.f (k + 1) a0 a1) := by
 intro a0 a1 k
 unfold r02_Less.f
 repeat' first
   | (with_reducible exact r02_of.mono _ _ _ _)
   | (with_reducible exact LeO.refl _)
   | (with_reducible exact LeO.none _)
   | (with_reducible refine LeO.ite ?_ ?_)
   | (with_reducible refine LeO.bind ?_ (fun _ => ?_))
   | exact r02_of.mono _ _ _ _
   | exact LeO.none _
   | refine LeO.ite ?_ ?_
   | refine LeO.bind ?_ (fun _ => ?_)
set_option maxHeartbeats 8000000 in
set_option maxRecDepth 100000 in
theorem r02_Less.calls (k : Nat) (A0 : Option Addr) (c0 : Nat) (l0 : List (S42)) (A1 : Option Addr) (c1 : Nat) (l1 : List (S42)) (r : List (S42)) (w : World) (hr0 : Kd.C k42 w A0 l0.length l0) (hc0 : l0.length ≤ c0) (hr1 : Kd.C k42 w A1 l1.length l1) (hc1 : l1.length ≤ c1) (h : r02_Less.f k l0 l1 = some r) :
  Calls Tryd.prog 53 #[.slice A0 l0.length c0, .slice A1 l1.length c1] w fun e w' => ∃ v0_ : Value, e = .returned (v0_) ∧ Kd.R k42 42 w' w.heap.size (fun _ => True) v0_ r ∧ Below w.heap.size w w' := by
 have HR0 := am hr0
 have HC0 := am hc0
 clear hr0 hc0
 have HR1 := am hr1
 have HC1 := am hc1
 clear hr1 hc1
 have HB := am (Below.refl w.heap.size w)
 have H : ((r02_of.f k l0 l1 3).bind fun t234 => (some t234)) = some r := h
 clear h
 replace H := Option.bind_eq_some_iff.mp H
 obtain ⟨t234, A30, H⟩ := H
 replace H : (some t234) = some r := H
 have A3 := am A30
 clear A30
 obtain rfl := Option.some.inj H
 go_enter Tryd.func53, Tryd.ntmps53
 go_wp2_with (first | ((with_reducible refine gate_callee (f := 52) rfl ?_); refine goesL_ (some 7) rfl rfl Tryd.func52 (by kernel_rfl) rfl #[.slice A0 l0.length c0, .slice A1 l1.length c1, .int .i64 3] rfl (by (try simp only [List.map_toArray, List.map_cons, List.map_nil]); first | done | rfl | (simp only [List.length_drop, List.length_take]; rfl)) ?_; (with_reducible refine (r02_of.calls k _ _ l0 _ _ l1 3 t234 _ ?side1 ?side2 ?side3 ?side4 A3.out).mono ?_); (case side1 => repeat (first | exact HR0.out | (with_reducible refine Kd.C_alloc ?_ _) | (with_reducible refine Kd.C_drewN ?_ _) | (with_reducible refine Kd.C_drew ?_))); (case side2 => exact HC0.out); (case side3 => repeat (first | exact HR1.out | (with_reducible refine Kd.C_alloc ?_ _) | (with_reducible refine Kd.C_drewN ?_ _) | (with_reducible refine Kd.C_drew ?_))); (case side4 => exact HC1.out); rintro e w4 ⟨v235, rfl, ho0, hb⟩; refine ⟨_, rfl, ?_⟩; have n0_ := am (Kd.R_lower ho0 (below_size (by repeat (first | (with_reducible first | exact HB.out | apply bal | apply bdn | apply bd1) | exact HB.out)))); have n1_ := am (below_step (by repeat (first | (with_reducible first | exact HB.out | apply bal | apply bdn | apply bd1) | exact HB.out)) hb); clear HB; have HO236 := n0_; have HB := n1_; clear n0_ n1_; (try clear hb); (try clear hb2); (try clear hk); (try clear hi); (try clear ho0)))
 go_ret
 exact ⟨_, by first | rfl | (simp [errW_none, errW_some] <;> rfl) | (simp [*, errW_none, errW_some] <;> rfl), by (with_reducible repeat (first | apply Kd.R_alloc | apply Kd.R_drewN | apply Kd.R_drew)); exact HO236.out, by repeat (first | (with_reducible first | exact HB.out | apply bal | apply bdn | apply bd1) | exact HB.out)⟩

/-! ### r37_wanting: function 39 -/
def r37_wanting.f (k : Nat) (a0_0 : Bool) (l0_1 : List (S42)) (l0_2 : List (S42)) (l0_3 : List (S42)) (a0_4 : Bool) (a0_5 : Bool) (a0_6 : Int) (a0_7 : Bool) : Option ((List (S42))) := (r02_Less.f k l0_1 l0_2).bind fun t238 => ((r02_Less.f k t238 l0_3).bind fun t241 => (some t241))
theorem r37_wanting.mono : ∀ a0 a1 a2 a3 a4 a5 a6 a7 k, LeO (r37_wanting.f k a0 a1 a2 a3 a4 a5 a6 a7) (r37_wanting.f (k + 1) a0 a1 a2 a3 a4 a5 a6 a7) := by
 intro a0 a1 a2 a3 a4 a5 a6 a7 k
 unfold r37_wanting.f
 repeat' first
   | (with_reducible exact r02_Less.mono _ _ _)
   | (with_reducible exact LeO.refl _)
   | (with_reducible exact LeO.none _)
   | (with_reducible refine LeO.ite ?_ ?_)
   | (with_reducible refine LeO.bind ?_ (fun _ => ?_))
   | exact r02_Less.mono _ _ _
   | exact LeO.none _
   | refine LeO.ite ?_ ?_
   | refine LeO.bind ?_ (fun _ => ?_)
def r37_wanting.T1 : Bool × List (List Nat × List Nat) := (true, [([], []), ([0], [0]), ([], []), ([2], [2]), ([1, 3], [1, 3]), ([], []), ([5], [5]), ([4, 6, 4], [4, 6]), ([7, 7, 0, 1, 2, 3, 4, 5, 6, 7], [7])])
def r37_wanting.B1 : List Nat := [0, 1, 0, 4, 15, 0, 32, 127, 255]
theorem r37_wanting.tab1 : rtab .any (opsOf Tryd.f39 1) = r37_wanting.T1 := by kernel_rfl
theorem r37_wanting.bits1 : waitsOk r37_wanting.T1.2 r37_wanting.B1 = true := by kernel_rfl
set_option maxHeartbeats 8000000 in
set_option maxRecDepth 100000 in
theorem r37_wanting.calls (k : Nat) (a0_0 : Bool) (A0_1 : Option Addr) (c0_1 : Nat) (l0_1 : List (S42)) (A0_2 : Option Addr) (c0_2 : Nat) (l0_2 : List (S42)) (A0_3 : Option Addr) (c0_3 : Nat) (l0_3 : List (S42)) (a0_4 : Bool) (a0_5 : Bool) (a0_6 : Int) (a0_7 : Bool) (r : List (S42)) (w : World) (hr0_1 : Kd.C k42 w A0_1 l0_1.length l0_1) (hc0_1 : l0_1.length ≤ c0_1) (hr0_2 : Kd.C k42 w A0_2 l0_2.length l0_2) (hc0_2 : l0_2.length ≤ c0_2) (hr0_3 : Kd.C k42 w A0_3 l0_3.length l0_3) (hc0_3 : l0_3.length ≤ c0_3) (h : r37_wanting.f k a0_0 l0_1 l0_2 l0_3 a0_4 a0_5 a0_6 a0_7 = some r) :
  Calls Tryd.prog 39 #[.agg #[.bool a0_0, .slice A0_1 l0_1.length c0_1, .slice A0_2 l0_2.length c0_2, .slice A0_3 l0_3.length c0_3, .bool a0_4, .bool a0_5, .int .i64 a0_6, .bool a0_7]] w fun e w' => ∃ v0_ : Value, e = .returned (v0_) ∧ Kd.R k42 42 w' w.heap.size (fun _ => True) v0_ r ∧ Below w.heap.size w w' := by
 have hu24 := Tryd.underlying24
 have HR0_1 := am hr0_1
 have HC0_1 := am hc0_1
 clear hr0_1 hc0_1
 have HR0_2 := am hr0_2
 have HC0_2 := am hc0_2
 clear hr0_2 hc0_2
 have HR0_3 := am hr0_3
 have HC0_3 := am hc0_3
 clear hr0_3 hc0_3
 have HB := am (Below.refl w.heap.size w)
 have H : ((r02_Less.f k l0_1 l0_2).bind fun t238 => ((r02_Less.f k t238 l0_3).bind fun t241 => (some t241))) = some r := h
 clear h
 replace H := Option.bind_eq_some_iff.mp H
 obtain ⟨t238, A20, H⟩ := H
 replace H : ((r02_Less.f k t238 l0_3).bind fun t241 => (some t241)) = some r := H
 have A2 := am A20
 clear A20
 replace H := Option.bind_eq_some_iff.mp H
 obtain ⟨t241, A30, H⟩ := H
 replace H : (some t241) = some r := H
 have A3 := am A30
 clear A30
 obtain rfl := Option.some.inj H
 go_enter Tryd.func39, Tryd.ntmps39
 try go_wp2_with (first | ((with_reducible refine gate_dst (N := 1) rfl ?_); refine box_event ?hg (N := 1) ?hd (cs := #[.bool a0_0, .slice A0_1 l0_1.length c0_1, .slice A0_2 l0_2.length c0_2, .slice A0_3 l0_3.length c0_3, .bool a0_4, .bool a0_5, .int .i64 a0_6, .bool a0_7]) (t := 24) ?hr ?_; (case hd => rfl); (case hg => rfl); (case hr => first | (go_simp; done) | (go_simp; rfl)); intro gb237 hg w4 hbox hb; have n0_ := am (below_step (by repeat (first | (with_reducible first | exact HB.out | apply bal | apply bdn | apply bd1) | exact HB.out)) hb); have n1_ := am (hbox); have n2_ := am ((by rw [hg]; exact (below_size (by repeat (first | (with_reducible first | exact HB.out | apply bal | apply bdn | apply bd1) | exact HB.out))) : w.heap.size ≤ gb237)); have n3_ := am ((by rw [hg]; exact (below_size (by repeat (first | (with_reducible first | exact HB.out | apply bal | apply bdn | apply bd1) | exact HB.out))) : w.heap.size ≤ gb237)); clear HB; have HB := n0_; have BK237 := n1_; have GW237 := n2_; have GE237 := n3_; clear n0_ n1_ n2_ n3_; clear hb hbox hg))
 have n0_ := am (kdr BK237.out)
 have n1_ := am (bd1 HB.out)
 clear BK237
 clear HB
 have BK237 := n0_
 have HB := n1_
 clear n0_ n1_
 refine start_ (n := 9) (S := fun w' => w'.cell? ⟨gb237, 0, none⟩ = some (.bool a0_0) ∧ w'.cell? ⟨gb237, 1, none⟩ = some (.slice A0_1 l0_1.length c0_1) ∧ w'.cell? ⟨gb237, 2, none⟩ = some (.slice A0_2 l0_2.length c0_2) ∧ w'.cell? ⟨gb237, 3, none⟩ = some (.slice A0_3 l0_3.length c0_3) ∧ w'.cell? ⟨gb237, 4, none⟩ = some (.bool a0_4) ∧ w'.cell? ⟨gb237, 5, none⟩ = some (.bool a0_5) ∧ w'.cell? ⟨gb237, 6, none⟩ = some (.int .i64 a0_6) ∧ w'.cell? ⟨gb237, 7, none⟩ = some (.bool a0_7)) (ds := []) #[false, false, false, false, false, false, false, false, false] (by kernel_rfl) rfl rfl ⟨(bcl BK237.out 0).trans rfl, (bcl BK237.out 1).trans rfl, (bcl BK237.out 2).trans rfl, (bcl BK237.out 3).trans rfl, (bcl BK237.out 4).trans rfl, (bcl BK237.out 5).trans rfl, (bcl BK237.out 6).trans rfl, (bcl BK237.out 7).trans rfl⟩ (fun hHeld => ?_); refine with_tabW r37_wanting.tab1 r37_wanting.bits1 (fun HT_ HW_ => ?_)
 generalize w4.drew = w5 at BK237 HB hHeld ⊢
 refine pure_ (i := 0) (N := some 3) (v := ?_) (a' := ?_) #[true, false, false, false, false, false, false, false, false] rfl rfl (any_of HT_.out (by kernel_rfl)) (fun _ _ _ h => h) (Or.inl ⟨by rfl, ?_⟩) ?_ ?_
 rotate_left
 ·intro w'
  go_simp
  with_reducible rfl
 rotate_left
 ·simp only [Act.put, sb1, sb2, sb3, i64_w, i32_w]
  rfl
 refine pure_ (i := 2) (N := some 5) (v := ?_) (a' := ?_) #[true, false, true, false, false, false, false, false, false] rfl rfl (any_of HT_.out (by kernel_rfl)) (fun _ _ _ h => h) (Or.inl ⟨by rfl, ?_⟩) ?_ ?_
 rotate_left
 ·intro w'
  go_simp
  with_reducible rfl
 rotate_left
 ·simp only [Act.put, sb1, sb2, sb3, i64_w, i32_w]
  rfl
 refine pure_ (i := 5) (N := some 8) (v := ?_) (a' := ?_) #[true, false, true, false, false, true, false, false, false] rfl rfl (any_of HT_.out (by kernel_rfl)) (fun _ _ _ h => h) (Or.inl ⟨by rfl, ?_⟩) ?_ ?_
 rotate_left
 ·intro w'
  go_simp
  with_reducible rfl
 rotate_left
 ·simp only [Act.put, sb1, sb2, sb3, i64_w, i32_w]
  rfl
 refine take_ (i := 1) (N := some 4) (v := ?_) (a' := ?_) #[true, true, true, false, false, true, false, false, false] rfl rfl (take_ofW HT_.out HW_.out (by kernel_rfl)) (fun _ _ _ h => h) (Or.inl ⟨by rfl, ?_⟩) hHeld ?_ ?_
 rotate_left
 ·rintro w' ⟨s0, s1, s2, s3, s4, s5, s6, s7⟩
  go_simp
  with_reducible rfl
 rotate_left
 ·simp only [Act.put, sb1, sb2, sb3, i64_w, i32_w]
  rfl
 refine take_ (i := 3) (N := some 6) (v := ?_) (a' := ?_) #[true, true, true, true, false, true, false, false, false] rfl rfl (take_ofW HT_.out HW_.out (by kernel_rfl)) (fun _ _ _ h => h) (Or.inl ⟨by rfl, ?_⟩) hHeld ?_ ?_
 rotate_left
 ·rintro w' ⟨s0, s1, s2, s3, s4, s5, s6, s7⟩
  go_simp
  with_reducible rfl
 rotate_left
 ·simp only [Act.put, sb1, sb2, sb3, i64_w, i32_w]
  rfl
 refine take_ (i := 6) (N := some 9) (v := ?_) (a' := ?_) #[true, true, true, true, false, true, true, false, false] rfl rfl (take_ofW HT_.out HW_.out (by kernel_rfl)) (fun _ _ _ h => h) (Or.inl ⟨by rfl, ?_⟩) hHeld ?_ ?_
 rotate_left
 ·rintro w' ⟨s0, s1, s2, s3, s4, s5, s6, s7⟩
  go_simp
  with_reducible rfl
 rotate_left
 ·simp only [Act.put, sb1, sb2, sb3, i64_w, i32_w]
  rfl
 refine one_ (i := 4) (N := some 7) #[true, true, true, true, true, true, true, false, false] rfl rfl (one_of HT_.out (by kernel_rfl)) (by decide) (fun K hK => ?_)
 refine goes_ Tryd.func53 (by kernel_rfl) rfl #[.slice A0_1 l0_1.length c0_1, .slice A0_2 l0_2.length c0_2] (by rfl) rfl rfl (by (try simp only [List.map_toArray, List.map_cons, List.map_nil]); first | done | rfl | (simp only [List.length_drop, List.length_take]; rfl)) ?_
 with_reducible refine (r02_Less.calls k _ _ l0_1 _ _ l0_2 t238 _ ?side1 ?side2 ?side3 ?side4 A2.out).mono ?_
 (case side1 => repeat (first | exact (Kd.C_below HR0_1.out HB.out) | (with_reducible refine Kd.C_alloc ?_ _) | (with_reducible refine Kd.C_drewN ?_ _) | (with_reducible refine Kd.C_drew ?_)))
 (case side2 => exact HC0_1.out)
 (case side3 => repeat (first | exact (Kd.C_below HR0_2.out HB.out) | (with_reducible refine Kd.C_alloc ?_ _) | (with_reducible refine Kd.C_drewN ?_ _) | (with_reducible refine Kd.C_drew ?_)))
 (case side4 => exact HC0_2.out)
 rintro e w6 ⟨v239, rfl, ho0, hb⟩
 refine ⟨_, rfl, ?_⟩
 have n0_ := am (Kd.R_lower ho0 (below_size (by repeat (first | (with_reducible first | exact HB.out | apply bal | apply bdn | apply bd1 | refine bst ?_ GE237.out) | exact HB.out))))
 have n1_ := am (blk_below (g := gb237) (o := .cells #[.bool a0_0, .slice A0_1 l0_1.length c0_1, .slice A0_2 l0_2.length c0_2, .slice A0_3 l0_3.length c0_3, .bool a0_4, .bool a0_5, .int .i64 a0_6, .bool a0_7] 24 (0, 0)) (by (with_reducible repeat (first | refine kdn ?_ _ | refine kdr ?_ | refine kal ?_ _)); exact BK237.out) hb)
 have n2_ := am (below_step (by repeat (first | (with_reducible first | exact HB.out | apply bal | apply bdn | apply bd1 | refine bst ?_ GE237.out) | exact HB.out)) hb)
 clear BK237
 clear HB
 have HO240 := n0_
 have BK237 := n1_
 have HB := n2_
 clear n0_ n1_ n2_
 (try clear hb)
 (try clear hb2)
 (try clear hk)
 (try clear hi)
 (try clear ho0)
 obtain ⟨Ao7, co7, eo7⟩ := Kd.R_slice HO240.out
 (first | subst eo7 | (injection eo7 with f1_ f2_ f3_; have f4_ := f1_.symm; have f5_ := f3_.symm; clear f1_ f2_ f3_; subst f4_; subst f5_))
 refine hK.out _ _ ⟨(bcl BK237.out 0).trans rfl, (bcl BK237.out 1).trans rfl, (bcl BK237.out 2).trans rfl, (bcl BK237.out 3).trans rfl, (bcl BK237.out 4).trans rfl, (bcl BK237.out 5).trans rfl, (bcl BK237.out 6).trans rfl, (bcl BK237.out 7).trans rfl⟩ (fun hHeld => ?_)
 clear hK K
 refine norm_ (a' := ?_) ?_ ?_
 rotate_left
 ·show Act.put _ (some 7) _ = _
  simp only [Act.put, sb1, sb2, sb3, i64_w, i32_w]
  rfl
 refine one_ (i := 7) (N := some 10) #[true, true, true, true, true, true, true, true, false] rfl rfl (one_of HT_.out (by kernel_rfl)) (by decide) (fun K hK => ?_)
 refine goes_ Tryd.func53 (by kernel_rfl) rfl #[.slice Ao7 t238.length co7, .slice A0_3 l0_3.length c0_3] (by rfl) rfl rfl (by (try simp only [List.map_toArray, List.map_cons, List.map_nil]); first | done | rfl | (simp only [List.length_drop, List.length_take]; rfl)) ?_
 with_reducible refine (r02_Less.calls k _ _ t238 _ _ l0_3 t241 _ ?side1 ?side2 ?side3 ?side4 A3.out).mono ?_
 (case side1 => repeat (first | exact (Kd.R_reads' HO240.out).2.2 | (with_reducible refine Kd.C_alloc ?_ _) | (with_reducible refine Kd.C_drewN ?_ _) | (with_reducible refine Kd.C_drew ?_)))
 (case side2 => exact (Kd.R_reads' HO240.out).2.1)
 (case side3 => repeat (first | exact (Kd.C_below HR0_3.out HB.out) | (with_reducible refine Kd.C_alloc ?_ _) | (with_reducible refine Kd.C_drewN ?_ _) | (with_reducible refine Kd.C_drew ?_)))
 (case side4 => exact HC0_3.out)
 rintro e w8 ⟨v242, rfl, ho0, hb⟩
 refine ⟨_, rfl, ?_⟩
 have n0_ := am (Kd.R_elder' (by (with_reducible repeat (first | apply Kd.R_alloc | apply Kd.R_drewN | apply Kd.R_drew)); exact HO240.out) (Kd.R_base ho0) hb)
 have n1_ := am (Kd.R_lower (Kd.R_new' ho0 (Kd.R_lt (by (with_reducible repeat (first | apply Kd.R_alloc | apply Kd.R_drewN | apply Kd.R_drew)); exact HO240.out))) (below_size (by repeat (first | (with_reducible first | exact HB.out | apply bal | apply bdn | apply bd1 | refine bst ?_ GE237.out) | exact HB.out))))
 have n2_ := am (blk_below (g := gb237) (o := .cells #[.bool a0_0, .slice A0_1 l0_1.length c0_1, .slice A0_2 l0_2.length c0_2, .slice A0_3 l0_3.length c0_3, .bool a0_4, .bool a0_5, .int .i64 a0_6, .bool a0_7] 24 (0, 0)) (by (with_reducible repeat (first | refine kdn ?_ _ | refine kdr ?_ | refine kal ?_ _)); exact BK237.out) hb)
 have n3_ := am (below_step (by repeat (first | (with_reducible first | exact HB.out | apply bal | apply bdn | apply bd1 | refine bst ?_ GE237.out) | exact HB.out)) hb)
 clear HO240
 clear BK237
 clear HB
 have HO240 := n0_
 have HO243 := n1_
 have BK237 := n2_
 have HB := n3_
 clear n0_ n1_ n2_ n3_
 (try clear hb)
 (try clear hb2)
 (try clear hk)
 (try clear hi)
 (try clear ho0)
 refine hK.out _ _ ⟨(bcl BK237.out 0).trans rfl, (bcl BK237.out 1).trans rfl, (bcl BK237.out 2).trans rfl, (bcl BK237.out 3).trans rfl, (bcl BK237.out 4).trans rfl, (bcl BK237.out 5).trans rfl, (bcl BK237.out 6).trans rfl, (bcl BK237.out 7).trans rfl⟩ (fun hHeld => ?_)
 clear hK K
 refine norm_ (a' := ?_) ?_ ?_
 rotate_left
 ·show Act.put _ (some 10) _ = _
  simp only [Act.put, sb1, sb2, sb3, i64_w, i32_w]
  rfl
 refine pure_ (i := 8) (N := some 2) (v := ?_) (a' := ?_) #[true, true, true, true, true, true, true, true, true] rfl rfl (any_of HT_.out (by kernel_rfl)) (fun _ _ _ h => h) (Or.inl ⟨by rfl, ?_⟩) ?_ ?_
 rotate_left
 ·intro w'
  go_simp
  with_reducible rfl
 rotate_left
 ·simp only [Act.put, sb1, sb2, sb3, i64_w, i32_w]
  rfl
 refine done_ (done_of HT_.out (by kernel_rfl)) ?_
 try go_wp2
 go_ret
 exact ⟨_, by first | rfl | (simp [errW_none, errW_some] <;> rfl) | (simp [*, errW_none, errW_some] <;> rfl), by (with_reducible repeat (first | apply Kd.R_alloc | apply Kd.R_drewN | apply Kd.R_drew)); exact Kd.R_mono HO243.out (fun _ hk => trivial), by repeat (first | (with_reducible first | exact HB.out | apply bal | apply bdn | apply bd1 | refine bst ?_ GE237.out) | exact HB.out)⟩

/-! ### r37_Lost: function 27 -/
def r37_Lost.f (k : Nat) (a0_0 : Bool) (l0_1 : List (S42)) (l0_2 : List (S42)) (l0_3 : List (S42)) (a0_4 : Bool) (a0_5 : Bool) (a0_6 : Int) (a0_7 : Bool) : Option ((List (S42))) := if a0_4 = true then ((r37_wanting.f k a0_0 l0_1 l0_2 l0_3 a0_4 a0_5 a0_6 a0_7).bind fun t245 => (some t245)) else (if a0_5 = true then ((r37_wanting.f k a0_0 l0_1 l0_2 l0_3 a0_4 a0_5 a0_6 a0_7).bind fun t248 => (some t248)) else (if a0_7 = true then (some ([] : List (S42))) else ((r37_wanting.f k a0_0 l0_1 l0_2 l0_3 a0_4 a0_5 a0_6 a0_7).bind fun t251 => (some t251))))
theorem r37_Lost.mono : ∀ a0 a1 a2 a3 a4 a5 a6 a7 k, LeO (r37_Lost.f k a0 a1 a2 a3 a4 a5 a6 a7) (r37_Lost.f (k + 1) a0 a1 a2 a3 a4 a5 a6 a7) := by
 intro a0 a1 a2 a3 a4 a5 a6 a7 k
 unfold r37_Lost.f
 repeat' first
   | (with_reducible exact r37_wanting.mono _ _ _ _ _ _ _ _ _)
   | (with_reducible exact LeO.refl _)
   | (with_reducible exact LeO.none _)
   | (with_reducible refine LeO.ite ?_ ?_)
   | (with_reducible refine LeO.bind ?_ (fun _ => ?_))
   | exact r37_wanting.mono _ _ _ _ _ _ _ _ _
   | exact LeO.none _
   | refine LeO.ite ?_ ?_
   | refine LeO.bind ?_ (fun _ => ?_)
set_option maxHeartbeats 8000000 in
set_option maxRecDepth 100000 in
theorem r37_Lost.calls (k : Nat) (a0_0 : Bool) (A0_1 : Option Addr) (c0_1 : Nat) (l0_1 : List (S42)) (A0_2 : Option Addr) (c0_2 : Nat) (l0_2 : List (S42)) (A0_3 : Option Addr) (c0_3 : Nat) (l0_3 : List (S42)) (a0_4 : Bool) (a0_5 : Bool) (a0_6 : Int) (a0_7 : Bool) (r : List (S42)) (w : World) (hr0_1 : Kd.C k42 w A0_1 l0_1.length l0_1) (hc0_1 : l0_1.length ≤ c0_1) (hr0_2 : Kd.C k42 w A0_2 l0_2.length l0_2) (hc0_2 : l0_2.length ≤ c0_2) (hr0_3 : Kd.C k42 w A0_3 l0_3.length l0_3) (hc0_3 : l0_3.length ≤ c0_3) (h : r37_Lost.f k a0_0 l0_1 l0_2 l0_3 a0_4 a0_5 a0_6 a0_7 = some r) :
  Calls Tryd.prog 27 #[.agg #[.bool a0_0, .slice A0_1 l0_1.length c0_1, .slice A0_2 l0_2.length c0_2, .slice A0_3 l0_3.length c0_3, .bool a0_4, .bool a0_5, .int .i64 a0_6, .bool a0_7]] w fun e w' => ∃ v0_ : Value, e = .returned (v0_) ∧ Kd.R k42 42 w' w.heap.size (fun _ => True) v0_ r ∧ Below w.heap.size w w' := by
 have hu24 := Tryd.underlying24
 have HR0_1 := am hr0_1
 have HC0_1 := am hc0_1
 clear hr0_1 hc0_1
 have HR0_2 := am hr0_2
 have HC0_2 := am hc0_2
 clear hr0_2 hc0_2
 have HR0_3 := am hr0_3
 have HC0_3 := am hc0_3
 clear hr0_3 hc0_3
 have HB := am (Below.refl w.heap.size w)
 have H : (if a0_4 = true then ((r37_wanting.f k a0_0 l0_1 l0_2 l0_3 a0_4 a0_5 a0_6 a0_7).bind fun t245 => (some t245)) else (if a0_5 = true then ((r37_wanting.f k a0_0 l0_1 l0_2 l0_3 a0_4 a0_5 a0_6 a0_7).bind fun t248 => (some t248)) else (if a0_7 = true then (some ([] : List (S42))) else ((r37_wanting.f k a0_0 l0_1 l0_2 l0_3 a0_4 a0_5 a0_6 a0_7).bind fun t251 => (some t251))))) = some r := h
 clear h
 by_cases c2 : a0_4 = true
 ·subst c2
  have H1 : ((r37_wanting.f k a0_0 l0_1 l0_2 l0_3 true a0_5 a0_6 a0_7).bind fun t245 => (some t245)) = some r := by rw [if_pos rfl] at H; exact H
  clear H
  have H := H1
  clear H1
  replace H := Option.bind_eq_some_iff.mp H
  obtain ⟨t245, A30, H⟩ := H
  replace H : (some t245) = some r := H
  have A3 := am A30
  clear A30
  obtain rfl := Option.some.inj H
  go_enter Tryd.func27, Tryd.ntmps27
  go_wp2_with (first | ((with_reducible refine gate_dst (N := 1) rfl ?_); refine box_event ?hg (N := 1) ?hd (cs := #[.bool a0_0, .slice A0_1 l0_1.length c0_1, .slice A0_2 l0_2.length c0_2, .slice A0_3 l0_3.length c0_3, .bool true, .bool a0_5, .int .i64 a0_6, .bool a0_7]) (t := 24) ?hr ?_; (case hd => rfl); (case hg => rfl); (case hr => first | (go_simp; done) | (go_simp; rfl)); intro gb244 hg w4 hbox hb; have n0_ := am (below_step (by repeat (first | (with_reducible first | exact HB.out | apply bal | apply bdn | apply bd1) | exact HB.out)) hb); have n1_ := am (hbox); have n2_ := am ((by rw [hg]; exact (below_size (by repeat (first | (with_reducible first | exact HB.out | apply bal | apply bdn | apply bd1) | exact HB.out))) : w.heap.size ≤ gb244)); have n3_ := am ((by rw [hg]; exact (below_size (by repeat (first | (with_reducible first | exact HB.out | apply bal | apply bdn | apply bd1) | exact HB.out))) : w.heap.size ≤ gb244)); clear HB; have HB := n0_; have BK244 := n1_; have GW244 := n2_; have GE244 := n3_; clear n0_ n1_ n2_ n3_; clear hb hbox hg; have hcz5_0 : w4.cell? ⟨gb244, 0, none⟩ = some (.bool a0_0) := (bcl BK244.out 0).trans rfl; have hcz5_1 : w4.cell? ⟨gb244, 1, none⟩ = some (.slice A0_1 l0_1.length c0_1) := (bcl BK244.out 1).trans rfl; have hcz5_2 : w4.cell? ⟨gb244, 2, none⟩ = some (.slice A0_2 l0_2.length c0_2) := (bcl BK244.out 2).trans rfl; have hcz5_3 : w4.cell? ⟨gb244, 3, none⟩ = some (.slice A0_3 l0_3.length c0_3) := (bcl BK244.out 3).trans rfl; have hcz5_4 : w4.cell? ⟨gb244, 4, none⟩ = some (.bool true) := (bcl BK244.out 4).trans rfl; have hcz5_5 : w4.cell? ⟨gb244, 5, none⟩ = some (.bool a0_5) := (bcl BK244.out 5).trans rfl; have hcz5_6 : w4.cell? ⟨gb244, 6, none⟩ = some (.int .i64 a0_6) := (bcl BK244.out 6).trans rfl; have hcz5_7 : w4.cell? ⟨gb244, 7, none⟩ = some (.bool a0_7) := (bcl BK244.out 7).trans rfl; have hfz5_0 := bfz BK244.out 0; have hfz5_1 := bfz BK244.out 1; have hfz5_2 := bfz BK244.out 2; have hfz5_3 := bfz BK244.out 3; have hfz5_4 := bfz BK244.out 4; have hfz5_5 := bfz BK244.out 5; have hfz5_6 := bfz BK244.out 6; have hfz5_7 := bfz BK244.out 7) | ((with_reducible refine gate_callee (f := 39) rfl ?_); refine goesL_ (some 15) rfl rfl Tryd.func39 (by kernel_rfl) rfl #[.agg #[.bool a0_0, .slice A0_1 l0_1.length c0_1, .slice A0_2 l0_2.length c0_2, .slice A0_3 l0_3.length c0_3, .bool true, .bool a0_5, .int .i64 a0_6, .bool a0_7]] rfl (by (try simp only [List.map_toArray, List.map_cons, List.map_nil]); first | done | rfl | (simp only [List.length_drop, List.length_take]; rfl)) ?_; (with_reducible refine (r37_wanting.calls k a0_0 _ _ l0_1 _ _ l0_2 _ _ l0_3 true a0_5 a0_6 a0_7 t245 _ ?side1 ?side2 ?side3 ?side4 ?side5 ?side6 A3.out).mono ?_); (case side1 => repeat (first | exact (Kd.C_below HR0_1.out HB.out) | (with_reducible refine Kd.C_alloc ?_ _) | (with_reducible refine Kd.C_drewN ?_ _) | (with_reducible refine Kd.C_drew ?_))); (case side2 => exact HC0_1.out); (case side3 => repeat (first | exact (Kd.C_below HR0_2.out HB.out) | (with_reducible refine Kd.C_alloc ?_ _) | (with_reducible refine Kd.C_drewN ?_ _) | (with_reducible refine Kd.C_drew ?_))); (case side4 => exact HC0_2.out); (case side5 => repeat (first | exact (Kd.C_below HR0_3.out HB.out) | (with_reducible refine Kd.C_alloc ?_ _) | (with_reducible refine Kd.C_drewN ?_ _) | (with_reducible refine Kd.C_drew ?_))); (case side6 => exact HC0_3.out); rintro e w6 ⟨v246, rfl, ho0, hb⟩; refine ⟨_, rfl, ?_⟩; have n0_ := am (Kd.R_lower ho0 (below_size (by repeat (first | (with_reducible first | exact HB.out | apply bal | apply bdn | apply bd1 | refine bst ?_ GE244.out) | exact HB.out)))); have n1_ := am (blk_below (g := gb244) (o := .cells #[.bool a0_0, .slice A0_1 l0_1.length c0_1, .slice A0_2 l0_2.length c0_2, .slice A0_3 l0_3.length c0_3, .bool true, .bool a0_5, .int .i64 a0_6, .bool a0_7] 24 (0, 0)) (by (with_reducible repeat (first | refine kdn ?_ _ | refine kdr ?_ | refine kal ?_ _)); exact BK244.out) hb); have n2_ := am (below_step (by repeat (first | (with_reducible first | exact HB.out | apply bal | apply bdn | apply bd1 | refine bst ?_ GE244.out) | exact HB.out)) hb); clear BK244; clear HB; have HO247 := n0_; have BK244 := n1_; have HB := n2_; clear n0_ n1_ n2_; (try clear hb); (try clear hb2); (try clear hk); (try clear hi); (try clear ho0)))
  go_ret
  exact ⟨_, by first | rfl | (simp [errW_none, errW_some] <;> rfl) | (simp [*, errW_none, errW_some] <;> rfl), by (with_reducible repeat (first | apply Kd.R_alloc | apply Kd.R_drewN | apply Kd.R_drew)); exact HO247.out, by repeat (first | (with_reducible first | exact HB.out | apply bal | apply bdn | apply bd1 | refine bst ?_ GE244.out) | exact HB.out)⟩
 ·replace c2 := Bool.eq_false_iff.mpr c2
  subst c2
  have H1 : (if a0_5 = true then ((r37_wanting.f k a0_0 l0_1 l0_2 l0_3 false a0_5 a0_6 a0_7).bind fun t248 => (some t248)) else (if a0_7 = true then (some ([] : List (S42))) else ((r37_wanting.f k a0_0 l0_1 l0_2 l0_3 false a0_5 a0_6 a0_7).bind fun t251 => (some t251)))) = some r := by rw [if_neg (show ¬ (false = true) by decide)] at H; exact H
  clear H
  have H := H1
  clear H1
  by_cases c7 : a0_5 = true
  ·subst c7
   have H1 : ((r37_wanting.f k a0_0 l0_1 l0_2 l0_3 false true a0_6 a0_7).bind fun t248 => (some t248)) = some r := by rw [if_pos rfl] at H; exact H
   clear H
   have H := H1
   clear H1
   replace H := Option.bind_eq_some_iff.mp H
   obtain ⟨t248, A80, H⟩ := H
   replace H : (some t248) = some r := H
   have A8 := am A80
   clear A80
   obtain rfl := Option.some.inj H
   go_enter Tryd.func27, Tryd.ntmps27
   go_wp2_with (first | ((with_reducible refine gate_dst (N := 1) rfl ?_); refine box_event ?hg (N := 1) ?hd (cs := #[.bool a0_0, .slice A0_1 l0_1.length c0_1, .slice A0_2 l0_2.length c0_2, .slice A0_3 l0_3.length c0_3, .bool false, .bool true, .int .i64 a0_6, .bool a0_7]) (t := 24) ?hr ?_; (case hd => rfl); (case hg => rfl); (case hr => first | (go_simp; done) | (go_simp; rfl)); intro gb244 hg w9 hbox hb; have n0_ := am (below_step (by repeat (first | (with_reducible first | exact HB.out | apply bal | apply bdn | apply bd1) | exact HB.out)) hb); have n1_ := am (hbox); have n2_ := am ((by rw [hg]; exact (below_size (by repeat (first | (with_reducible first | exact HB.out | apply bal | apply bdn | apply bd1) | exact HB.out))) : w.heap.size ≤ gb244)); have n3_ := am ((by rw [hg]; exact (below_size (by repeat (first | (with_reducible first | exact HB.out | apply bal | apply bdn | apply bd1) | exact HB.out))) : w.heap.size ≤ gb244)); clear HB; have HB := n0_; have BK244 := n1_; have GW244 := n2_; have GE244 := n3_; clear n0_ n1_ n2_ n3_; clear hb hbox hg; have hcz10_0 : w9.cell? ⟨gb244, 0, none⟩ = some (.bool a0_0) := (bcl BK244.out 0).trans rfl; have hcz10_1 : w9.cell? ⟨gb244, 1, none⟩ = some (.slice A0_1 l0_1.length c0_1) := (bcl BK244.out 1).trans rfl; have hcz10_2 : w9.cell? ⟨gb244, 2, none⟩ = some (.slice A0_2 l0_2.length c0_2) := (bcl BK244.out 2).trans rfl; have hcz10_3 : w9.cell? ⟨gb244, 3, none⟩ = some (.slice A0_3 l0_3.length c0_3) := (bcl BK244.out 3).trans rfl; have hcz10_4 : w9.cell? ⟨gb244, 4, none⟩ = some (.bool false) := (bcl BK244.out 4).trans rfl; have hcz10_5 : w9.cell? ⟨gb244, 5, none⟩ = some (.bool true) := (bcl BK244.out 5).trans rfl; have hcz10_6 : w9.cell? ⟨gb244, 6, none⟩ = some (.int .i64 a0_6) := (bcl BK244.out 6).trans rfl; have hcz10_7 : w9.cell? ⟨gb244, 7, none⟩ = some (.bool a0_7) := (bcl BK244.out 7).trans rfl; have hfz10_0 := bfz BK244.out 0; have hfz10_1 := bfz BK244.out 1; have hfz10_2 := bfz BK244.out 2; have hfz10_3 := bfz BK244.out 3; have hfz10_4 := bfz BK244.out 4; have hfz10_5 := bfz BK244.out 5; have hfz10_6 := bfz BK244.out 6; have hfz10_7 := bfz BK244.out 7) | ((with_reducible refine gate_callee (f := 39) rfl ?_); refine goesL_ (some 15) rfl rfl Tryd.func39 (by kernel_rfl) rfl #[.agg #[.bool a0_0, .slice A0_1 l0_1.length c0_1, .slice A0_2 l0_2.length c0_2, .slice A0_3 l0_3.length c0_3, .bool false, .bool true, .int .i64 a0_6, .bool a0_7]] rfl (by (try simp only [List.map_toArray, List.map_cons, List.map_nil]); first | done | rfl | (simp only [List.length_drop, List.length_take]; rfl)) ?_; (with_reducible refine (r37_wanting.calls k a0_0 _ _ l0_1 _ _ l0_2 _ _ l0_3 false true a0_6 a0_7 t248 _ ?side1 ?side2 ?side3 ?side4 ?side5 ?side6 A8.out).mono ?_); (case side1 => repeat (first | exact (Kd.C_below HR0_1.out HB.out) | (with_reducible refine Kd.C_alloc ?_ _) | (with_reducible refine Kd.C_drewN ?_ _) | (with_reducible refine Kd.C_drew ?_))); (case side2 => exact HC0_1.out); (case side3 => repeat (first | exact (Kd.C_below HR0_2.out HB.out) | (with_reducible refine Kd.C_alloc ?_ _) | (with_reducible refine Kd.C_drewN ?_ _) | (with_reducible refine Kd.C_drew ?_))); (case side4 => exact HC0_2.out); (case side5 => repeat (first | exact (Kd.C_below HR0_3.out HB.out) | (with_reducible refine Kd.C_alloc ?_ _) | (with_reducible refine Kd.C_drewN ?_ _) | (with_reducible refine Kd.C_drew ?_))); (case side6 => exact HC0_3.out); rintro e w11 ⟨v249, rfl, ho0, hb⟩; refine ⟨_, rfl, ?_⟩; have n0_ := am (Kd.R_lower ho0 (below_size (by repeat (first | (with_reducible first | exact HB.out | apply bal | apply bdn | apply bd1 | refine bst ?_ GE244.out) | exact HB.out)))); have n1_ := am (blk_below (g := gb244) (o := .cells #[.bool a0_0, .slice A0_1 l0_1.length c0_1, .slice A0_2 l0_2.length c0_2, .slice A0_3 l0_3.length c0_3, .bool false, .bool true, .int .i64 a0_6, .bool a0_7] 24 (0, 0)) (by (with_reducible repeat (first | refine kdn ?_ _ | refine kdr ?_ | refine kal ?_ _)); exact BK244.out) hb); have n2_ := am (below_step (by repeat (first | (with_reducible first | exact HB.out | apply bal | apply bdn | apply bd1 | refine bst ?_ GE244.out) | exact HB.out)) hb); clear BK244; clear HB; have HO250 := n0_; have BK244 := n1_; have HB := n2_; clear n0_ n1_ n2_; (try clear hb); (try clear hb2); (try clear hk); (try clear hi); (try clear ho0)))
   go_ret
   exact ⟨_, by first | rfl | (simp [errW_none, errW_some] <;> rfl) | (simp [*, errW_none, errW_some] <;> rfl), by (with_reducible repeat (first | apply Kd.R_alloc | apply Kd.R_drewN | apply Kd.R_drew)); exact HO250.out, by repeat (first | (with_reducible first | exact HB.out | apply bal | apply bdn | apply bd1 | refine bst ?_ GE244.out) | exact HB.out)⟩
  ·replace c7 := Bool.eq_false_iff.mpr c7
   subst c7
   have H1 : (if a0_7 = true then (some ([] : List (S42))) else ((r37_wanting.f k a0_0 l0_1 l0_2 l0_3 false false a0_6 a0_7).bind fun t251 => (some t251))) = some r := by rw [if_neg (show ¬ (false = true) by decide)] at H; exact H
   clear H
   have H := H1
   clear H1
   by_cases c12 : a0_7 = true
   ·subst c12
    have H1 : (some ([] : List (S42))) = some r := by rw [if_pos rfl] at H; exact H
    clear H
    have H := H1
    clear H1
    obtain rfl := Option.some.inj H
    go_enter Tryd.func27, Tryd.ntmps27
    go_wp2_with (first | ((with_reducible refine gate_dst (N := 1) rfl ?_); refine box_event ?hg (N := 1) ?hd (cs := #[.bool a0_0, .slice A0_1 l0_1.length c0_1, .slice A0_2 l0_2.length c0_2, .slice A0_3 l0_3.length c0_3, .bool false, .bool false, .int .i64 a0_6, .bool true]) (t := 24) ?hr ?_; (case hd => rfl); (case hg => rfl); (case hr => first | (go_simp; done) | (go_simp; rfl)); intro gb244 hg w13 hbox hb; have n0_ := am (below_step (by repeat (first | (with_reducible first | exact HB.out | apply bal | apply bdn | apply bd1) | exact HB.out)) hb); have n1_ := am (hbox); have n2_ := am ((by rw [hg]; exact (below_size (by repeat (first | (with_reducible first | exact HB.out | apply bal | apply bdn | apply bd1) | exact HB.out))) : w.heap.size ≤ gb244)); have n3_ := am ((by rw [hg]; exact (below_size (by repeat (first | (with_reducible first | exact HB.out | apply bal | apply bdn | apply bd1) | exact HB.out))) : w.heap.size ≤ gb244)); clear HB; have HB := n0_; have BK244 := n1_; have GW244 := n2_; have GE244 := n3_; clear n0_ n1_ n2_ n3_; clear hb hbox hg; have hcz14_0 : w13.cell? ⟨gb244, 0, none⟩ = some (.bool a0_0) := (bcl BK244.out 0).trans rfl; have hcz14_1 : w13.cell? ⟨gb244, 1, none⟩ = some (.slice A0_1 l0_1.length c0_1) := (bcl BK244.out 1).trans rfl; have hcz14_2 : w13.cell? ⟨gb244, 2, none⟩ = some (.slice A0_2 l0_2.length c0_2) := (bcl BK244.out 2).trans rfl; have hcz14_3 : w13.cell? ⟨gb244, 3, none⟩ = some (.slice A0_3 l0_3.length c0_3) := (bcl BK244.out 3).trans rfl; have hcz14_4 : w13.cell? ⟨gb244, 4, none⟩ = some (.bool false) := (bcl BK244.out 4).trans rfl; have hcz14_5 : w13.cell? ⟨gb244, 5, none⟩ = some (.bool false) := (bcl BK244.out 5).trans rfl; have hcz14_6 : w13.cell? ⟨gb244, 6, none⟩ = some (.int .i64 a0_6) := (bcl BK244.out 6).trans rfl; have hcz14_7 : w13.cell? ⟨gb244, 7, none⟩ = some (.bool true) := (bcl BK244.out 7).trans rfl; have hfz14_0 := bfz BK244.out 0; have hfz14_1 := bfz BK244.out 1; have hfz14_2 := bfz BK244.out 2; have hfz14_3 := bfz BK244.out 3; have hfz14_4 := bfz BK244.out 4; have hfz14_5 := bfz BK244.out 5; have hfz14_6 := bfz BK244.out 6; have hfz14_7 := bfz BK244.out 7))
    go_ret
    exact ⟨_, by first | rfl | (simp [errW_none, errW_some] <;> rfl) | (simp [*, errW_none, errW_some] <;> rfl), by first | exact Kd.R_nil _ _ _ _ _ | exact Kd.N_nil _ _ _ _ _ | exact Kd.V_nil _ _ _ _ _ | exact Kd.Q_nil _ _ _ _ _ | exact Kd.S_nil _ _ _ _ _, by repeat (first | (with_reducible first | exact HB.out | apply bal | apply bdn | apply bd1 | refine bst ?_ GE244.out) | exact HB.out)⟩
   ·replace c12 := Bool.eq_false_iff.mpr c12
    subst c12
    have H1 : ((r37_wanting.f k a0_0 l0_1 l0_2 l0_3 false false a0_6 false).bind fun t251 => (some t251)) = some r := by rw [if_neg (show ¬ (false = true) by decide)] at H; exact H
    clear H
    have H := H1
    clear H1
    replace H := Option.bind_eq_some_iff.mp H
    obtain ⟨t251, A150, H⟩ := H
    replace H : (some t251) = some r := H
    have A15 := am A150
    clear A150
    obtain rfl := Option.some.inj H
    go_enter Tryd.func27, Tryd.ntmps27
    go_wp2_with (first | ((with_reducible refine gate_dst (N := 1) rfl ?_); refine box_event ?hg (N := 1) ?hd (cs := #[.bool a0_0, .slice A0_1 l0_1.length c0_1, .slice A0_2 l0_2.length c0_2, .slice A0_3 l0_3.length c0_3, .bool false, .bool false, .int .i64 a0_6, .bool false]) (t := 24) ?hr ?_; (case hd => rfl); (case hg => rfl); (case hr => first | (go_simp; done) | (go_simp; rfl)); intro gb244 hg w16 hbox hb; have n0_ := am (below_step (by repeat (first | (with_reducible first | exact HB.out | apply bal | apply bdn | apply bd1) | exact HB.out)) hb); have n1_ := am (hbox); have n2_ := am ((by rw [hg]; exact (below_size (by repeat (first | (with_reducible first | exact HB.out | apply bal | apply bdn | apply bd1) | exact HB.out))) : w.heap.size ≤ gb244)); have n3_ := am ((by rw [hg]; exact (below_size (by repeat (first | (with_reducible first | exact HB.out | apply bal | apply bdn | apply bd1) | exact HB.out))) : w.heap.size ≤ gb244)); clear HB; have HB := n0_; have BK244 := n1_; have GW244 := n2_; have GE244 := n3_; clear n0_ n1_ n2_ n3_; clear hb hbox hg; have hcz17_0 : w16.cell? ⟨gb244, 0, none⟩ = some (.bool a0_0) := (bcl BK244.out 0).trans rfl; have hcz17_1 : w16.cell? ⟨gb244, 1, none⟩ = some (.slice A0_1 l0_1.length c0_1) := (bcl BK244.out 1).trans rfl; have hcz17_2 : w16.cell? ⟨gb244, 2, none⟩ = some (.slice A0_2 l0_2.length c0_2) := (bcl BK244.out 2).trans rfl; have hcz17_3 : w16.cell? ⟨gb244, 3, none⟩ = some (.slice A0_3 l0_3.length c0_3) := (bcl BK244.out 3).trans rfl; have hcz17_4 : w16.cell? ⟨gb244, 4, none⟩ = some (.bool false) := (bcl BK244.out 4).trans rfl; have hcz17_5 : w16.cell? ⟨gb244, 5, none⟩ = some (.bool false) := (bcl BK244.out 5).trans rfl; have hcz17_6 : w16.cell? ⟨gb244, 6, none⟩ = some (.int .i64 a0_6) := (bcl BK244.out 6).trans rfl; have hcz17_7 : w16.cell? ⟨gb244, 7, none⟩ = some (.bool false) := (bcl BK244.out 7).trans rfl; have hfz17_0 := bfz BK244.out 0; have hfz17_1 := bfz BK244.out 1; have hfz17_2 := bfz BK244.out 2; have hfz17_3 := bfz BK244.out 3; have hfz17_4 := bfz BK244.out 4; have hfz17_5 := bfz BK244.out 5; have hfz17_6 := bfz BK244.out 6; have hfz17_7 := bfz BK244.out 7) | ((with_reducible refine gate_callee (f := 39) rfl ?_); refine goesL_ (some 15) rfl rfl Tryd.func39 (by kernel_rfl) rfl #[.agg #[.bool a0_0, .slice A0_1 l0_1.length c0_1, .slice A0_2 l0_2.length c0_2, .slice A0_3 l0_3.length c0_3, .bool false, .bool false, .int .i64 a0_6, .bool false]] rfl (by (try simp only [List.map_toArray, List.map_cons, List.map_nil]); first | done | rfl | (simp only [List.length_drop, List.length_take]; rfl)) ?_; (with_reducible refine (r37_wanting.calls k a0_0 _ _ l0_1 _ _ l0_2 _ _ l0_3 false false a0_6 false t251 _ ?side1 ?side2 ?side3 ?side4 ?side5 ?side6 A15.out).mono ?_); (case side1 => repeat (first | exact (Kd.C_below HR0_1.out HB.out) | (with_reducible refine Kd.C_alloc ?_ _) | (with_reducible refine Kd.C_drewN ?_ _) | (with_reducible refine Kd.C_drew ?_))); (case side2 => exact HC0_1.out); (case side3 => repeat (first | exact (Kd.C_below HR0_2.out HB.out) | (with_reducible refine Kd.C_alloc ?_ _) | (with_reducible refine Kd.C_drewN ?_ _) | (with_reducible refine Kd.C_drew ?_))); (case side4 => exact HC0_2.out); (case side5 => repeat (first | exact (Kd.C_below HR0_3.out HB.out) | (with_reducible refine Kd.C_alloc ?_ _) | (with_reducible refine Kd.C_drewN ?_ _) | (with_reducible refine Kd.C_drew ?_))); (case side6 => exact HC0_3.out); rintro e w18 ⟨v252, rfl, ho0, hb⟩; refine ⟨_, rfl, ?_⟩; have n0_ := am (Kd.R_lower ho0 (below_size (by repeat (first | (with_reducible first | exact HB.out | apply bal | apply bdn | apply bd1 | refine bst ?_ GE244.out) | exact HB.out)))); have n1_ := am (blk_below (g := gb244) (o := .cells #[.bool a0_0, .slice A0_1 l0_1.length c0_1, .slice A0_2 l0_2.length c0_2, .slice A0_3 l0_3.length c0_3, .bool false, .bool false, .int .i64 a0_6, .bool false] 24 (0, 0)) (by (with_reducible repeat (first | refine kdn ?_ _ | refine kdr ?_ | refine kal ?_ _)); exact BK244.out) hb); have n2_ := am (below_step (by repeat (first | (with_reducible first | exact HB.out | apply bal | apply bdn | apply bd1 | refine bst ?_ GE244.out) | exact HB.out)) hb); clear BK244; clear HB; have HO253 := n0_; have BK244 := n1_; have HB := n2_; clear n0_ n1_ n2_; (try clear hb); (try clear hb2); (try clear hk); (try clear hi); (try clear ho0)))
    go_ret
    exact ⟨_, by first | rfl | (simp [errW_none, errW_some] <;> rfl) | (simp [*, errW_none, errW_some] <;> rfl), by (with_reducible repeat (first | apply Kd.R_alloc | apply Kd.R_drewN | apply Kd.R_drew)); exact HO253.out, by repeat (first | (with_reducible first | exact HB.out | apply bal | apply bdn | apply bd1 | refine bst ?_ GE244.out) | exact HB.out)⟩

/-! ### r37_Decide: function 15 -/
def r37_Decide.j0 : Nat → List (S42) → Bool → Bool → List (S42) → List (S42) → List (S42) → Bool → Bool → Int → Bool → Option (Int)
 | 0, _, _, _, _, _, _, _, _, _, _ => none
 | k + 1, x3, x18, x255000, x255001, x255002, x255003, x255004, x255005, x255006, x255007 => if x18 = true then (if x255006 > 0 then (some 4) else (some 5)) else (if 0 < (x255001.length : Int) then ((r02_In.f k x255002 ((rd_T42 x255001 0).f0)).bind fun t259 => (if t259 = true then (some 1) else ((r02_In.f k x255003 ((rd_T42 x255001 0).f0)).bind fun t260 => (if t260 = true then (some 2) else (if (x3.length : Int) > 0 then (some 5) else (some 3)))))) else (none))
def r37_Decide.f (k : Nat) (a0_0 : Bool) (l0_1 : List (S42)) (l0_2 : List (S42)) (l0_3 : List (S42)) (a0_4 : Bool) (a0_5 : Bool) (a0_6 : Int) (a0_7 : Bool) : Option (Int) := if (l0_1.length : Int) = 0 then (some 6) else ((r37_Lost.f k a0_0 l0_1 l0_2 l0_3 a0_4 a0_5 a0_6 a0_7).bind fun t255 => (if (t255.length : Int) > 0 then (r37_Decide.j0 k t255 (!a0_0) a0_0 l0_1 l0_2 l0_3 a0_4 a0_5 a0_6 a0_7) else (r37_Decide.j0 k t255 false a0_0 l0_1 l0_2 l0_3 a0_4 a0_5 a0_6 a0_7)))
theorem r37_Decide.mono_l : ∀ k, (∀ y0 y1 y2 y3 y4 y5 y6 y7 y8 y9, LeO (r37_Decide.j0 k y0 y1 y2 y3 y4 y5 y6 y7 y8 y9) (r37_Decide.j0 (k + 1) y0 y1 y2 y3 y4 y5 y6 y7 y8 y9))
 | 0 => fun _ _ _ _ _ _ _ _ _ _ r h => by simp [r37_Decide.j0] at h
 | k + 1 => by
  have ih0 := r37_Decide.mono_l k
  ·intro y0 y1 y2 y3 y4 y5 y6 y7 y8 y9
   unfold r37_Decide.j0
   repeat' first
   | (with_reducible exact ih0 _ _ _ _ _ _ _ _ _ _)
   | (with_reducible exact r02_In.mono _ _ _)
   | (with_reducible exact r37_Lost.mono _ _ _ _ _ _ _ _ _)
   | (with_reducible exact LeO.refl _)
   | (with_reducible exact LeO.none _)
   | (with_reducible refine LeO.ite ?_ ?_)
   | (with_reducible refine LeO.bind ?_ (fun _ => ?_))
   | exact ih0 _ _ _ _ _ _ _ _ _ _
   | exact r02_In.mono _ _ _
   | exact r37_Lost.mono _ _ _ _ _ _ _ _ _
   | exact LeO.none _
   | refine LeO.ite ?_ ?_
   | refine LeO.bind ?_ (fun _ => ?_)
theorem r37_Decide.mono : ∀ a0 a1 a2 a3 a4 a5 a6 a7 k, LeO (r37_Decide.f k a0 a1 a2 a3 a4 a5 a6 a7) (r37_Decide.f (k + 1) a0 a1 a2 a3 a4 a5 a6 a7) := by
 intro a0 a1 a2 a3 a4 a5 a6 a7 k
 have ih0 := r37_Decide.mono_l k
 unfold r37_Decide.f
 repeat' first
   | (with_reducible exact ih0 _ _ _ _ _ _ _ _ _ _)
   | (with_reducible exact r02_In.mono _ _ _)
   | (with_reducible exact r37_Lost.mono _ _ _ _ _ _ _ _ _)
   | (with_reducible exact LeO.refl _)
   | (with_reducible exact LeO.none _)
   | (with_reducible refine LeO.ite ?_ ?_)
   | (with_reducible refine LeO.bind ?_ (fun _ => ?_))
   | exact ih0 _ _ _ _ _ _ _ _ _ _
   | exact r02_In.mono _ _ _
   | exact r37_Lost.mono _ _ _ _ _ _ _ _ _
   | exact LeO.none _
   | refine LeO.ite ?_ ?_
   | refine LeO.bind ?_ (fun _ => ?_)
set_option maxHeartbeats 8000000 in
set_option maxRecDepth 100000 in
theorem r37_Decide.calls (k : Nat) (a0_0 : Bool) (A0_1 : Option Addr) (c0_1 : Nat) (l0_1 : List (S42)) (A0_2 : Option Addr) (c0_2 : Nat) (l0_2 : List (S42)) (A0_3 : Option Addr) (c0_3 : Nat) (l0_3 : List (S42)) (a0_4 : Bool) (a0_5 : Bool) (a0_6 : Int) (a0_7 : Bool) (r : Int) (w : World) (hr0_1 : Kd.C k42 w A0_1 l0_1.length l0_1) (hc0_1 : l0_1.length ≤ c0_1) (hr0_2 : Kd.C k42 w A0_2 l0_2.length l0_2) (hc0_2 : l0_2.length ≤ c0_2) (hr0_3 : Kd.C k42 w A0_3 l0_3.length l0_3) (hc0_3 : l0_3.length ≤ c0_3) (h : r37_Decide.f k a0_0 l0_1 l0_2 l0_3 a0_4 a0_5 a0_6 a0_7 = some r) :
  Calls Tryd.prog 15 #[.agg #[.bool a0_0, .slice A0_1 l0_1.length c0_1, .slice A0_2 l0_2.length c0_2, .slice A0_3 l0_3.length c0_3, .bool a0_4, .bool a0_5, .int .i64 a0_6, .bool a0_7]] w fun e w' => e = .returned (.int .i64 r) ∧ Below w.heap.size w w' := by
 have hu24 := Tryd.underlying24
 have HR0_1 := am hr0_1
 have HC0_1 := am hc0_1
 clear hr0_1 hc0_1
 have HR0_2 := am hr0_2
 have HC0_2 := am hc0_2
 clear hr0_2 hc0_2
 have HR0_3 := am hr0_3
 have HC0_3 := am hc0_3
 clear hr0_3 hc0_3
 have HB := am (Below.refl w.heap.size w)
 have H : (if (l0_1.length : Int) = 0 then (some 6) else ((r37_Lost.f k a0_0 l0_1 l0_2 l0_3 a0_4 a0_5 a0_6 a0_7).bind fun t255 => (if (t255.length : Int) > 0 then (r37_Decide.j0 k t255 (!a0_0) a0_0 l0_1 l0_2 l0_3 a0_4 a0_5 a0_6 a0_7) else (r37_Decide.j0 k t255 false a0_0 l0_1 l0_2 l0_3 a0_4 a0_5 a0_6 a0_7)))) = some r := h
 clear h
 by_cases c2 : (l0_1.length : Int) = 0
 ·rw [if_pos c2] at H
  have c2b0 : ((l0_1.length : Int) == 0) = true := beq_iff_eq.mpr c2
  have c2b1 : ((l0_1.length : Int) != 0) = false := bne_eq_false_iff_eq.mpr c2
  clear c2
  obtain rfl := Option.some.inj H
  go_enter Tryd.func15, Tryd.ntmps15
  go_wp2_with (first | ((with_reducible refine gate_dst (N := 1) rfl ?_); refine box_event ?hg (N := 1) ?hd (cs := #[.bool a0_0, .slice A0_1 l0_1.length c0_1, .slice A0_2 l0_2.length c0_2, .slice A0_3 l0_3.length c0_3, .bool a0_4, .bool a0_5, .int .i64 a0_6, .bool a0_7]) (t := 24) ?hr ?_; (case hd => rfl); (case hg => rfl); (case hr => first | (go_simp; done) | (go_simp; rfl)); intro gb254 hg w3 hbox hb; have n0_ := am (below_step (by repeat (first | (with_reducible first | exact HB.out | apply bal | apply bdn | apply bd1) | exact HB.out)) hb); have n1_ := am (hbox); have n2_ := am ((by rw [hg]; exact (below_size (by repeat (first | (with_reducible first | exact HB.out | apply bal | apply bdn | apply bd1) | exact HB.out))) : w.heap.size ≤ gb254)); have n3_ := am ((by rw [hg]; exact (below_size (by repeat (first | (with_reducible first | exact HB.out | apply bal | apply bdn | apply bd1) | exact HB.out))) : w.heap.size ≤ gb254)); clear HB; have HB := n0_; have BK254 := n1_; have GW254 := n2_; have GE254 := n3_; clear n0_ n1_ n2_ n3_; clear hb hbox hg; have hcz4_0 : w3.cell? ⟨gb254, 0, none⟩ = some (.bool a0_0) := (bcl BK254.out 0).trans rfl; have hcz4_1 : w3.cell? ⟨gb254, 1, none⟩ = some (.slice A0_1 l0_1.length c0_1) := (bcl BK254.out 1).trans rfl; have hcz4_2 : w3.cell? ⟨gb254, 2, none⟩ = some (.slice A0_2 l0_2.length c0_2) := (bcl BK254.out 2).trans rfl; have hcz4_3 : w3.cell? ⟨gb254, 3, none⟩ = some (.slice A0_3 l0_3.length c0_3) := (bcl BK254.out 3).trans rfl; have hcz4_4 : w3.cell? ⟨gb254, 4, none⟩ = some (.bool a0_4) := (bcl BK254.out 4).trans rfl; have hcz4_5 : w3.cell? ⟨gb254, 5, none⟩ = some (.bool a0_5) := (bcl BK254.out 5).trans rfl; have hcz4_6 : w3.cell? ⟨gb254, 6, none⟩ = some (.int .i64 a0_6) := (bcl BK254.out 6).trans rfl; have hcz4_7 : w3.cell? ⟨gb254, 7, none⟩ = some (.bool a0_7) := (bcl BK254.out 7).trans rfl; have hfz4_0 := bfz BK254.out 0; have hfz4_1 := bfz BK254.out 1; have hfz4_2 := bfz BK254.out 2; have hfz4_3 := bfz BK254.out 3; have hfz4_4 := bfz BK254.out 4; have hfz4_5 := bfz BK254.out 5; have hfz4_6 := bfz BK254.out 6; have hfz4_7 := bfz BK254.out 7))
  go_ret
  exact ⟨by first | rfl | (simp [errW_none, errW_some] <;> rfl) | (simp [*, errW_none, errW_some] <;> rfl), by repeat (first | (with_reducible first | exact HB.out | apply bal | apply bdn | apply bd1 | refine bst ?_ GE254.out) | exact HB.out)⟩
 ·rw [if_neg c2] at H
  have c2b0 : ((l0_1.length : Int) == 0) = false := beq_eq_false_iff_ne.mpr c2
  have c2b1 : ((l0_1.length : Int) != 0) = true := bne_iff_ne.mpr c2
  have c2b2 : ¬ (l0_1 = []) := fun h_ => c2 (by rw [h_]; rfl)
  replace H := Option.bind_eq_some_iff.mp H
  obtain ⟨t255, A50, H⟩ := H
  replace H : (if (t255.length : Int) > 0 then (r37_Decide.j0 k t255 (!a0_0) a0_0 l0_1 l0_2 l0_3 a0_4 a0_5 a0_6 a0_7) else (r37_Decide.j0 k t255 false a0_0 l0_1 l0_2 l0_3 a0_4 a0_5 a0_6 a0_7)) = some r := H
  have A5 := am A50
  clear A50
  have HC6 := am H
  clear H
  go_enter Tryd.func15, Tryd.ntmps15
  go_upto_region 4 with (first | ((with_reducible refine gate_dst (N := 1) rfl ?_); refine box_event ?hg (N := 1) ?hd (cs := #[.bool a0_0, .slice A0_1 l0_1.length c0_1, .slice A0_2 l0_2.length c0_2, .slice A0_3 l0_3.length c0_3, .bool a0_4, .bool a0_5, .int .i64 a0_6, .bool a0_7]) (t := 24) ?hr ?_; (case hd => rfl); (case hg => rfl); (case hr => first | (go_simp; done) | (go_simp; rfl)); intro gb254 hg w7 hbox hb; have n0_ := am (below_step (by repeat (first | (with_reducible first | exact HB.out | apply bal | apply bdn | apply bd1) | exact HB.out)) hb); have n1_ := am (hbox); have n2_ := am ((by rw [hg]; exact (below_size (by repeat (first | (with_reducible first | exact HB.out | apply bal | apply bdn | apply bd1) | exact HB.out))) : w.heap.size ≤ gb254)); have n3_ := am ((by rw [hg]; exact (below_size (by repeat (first | (with_reducible first | exact HB.out | apply bal | apply bdn | apply bd1) | exact HB.out))) : w.heap.size ≤ gb254)); clear HB; have HB := n0_; have BK254 := n1_; have GW254 := n2_; have GE254 := n3_; clear n0_ n1_ n2_ n3_; clear hb hbox hg; have hcz8_0 : w7.cell? ⟨gb254, 0, none⟩ = some (.bool a0_0) := (bcl BK254.out 0).trans rfl; have hcz8_1 : w7.cell? ⟨gb254, 1, none⟩ = some (.slice A0_1 l0_1.length c0_1) := (bcl BK254.out 1).trans rfl; have hcz8_2 : w7.cell? ⟨gb254, 2, none⟩ = some (.slice A0_2 l0_2.length c0_2) := (bcl BK254.out 2).trans rfl; have hcz8_3 : w7.cell? ⟨gb254, 3, none⟩ = some (.slice A0_3 l0_3.length c0_3) := (bcl BK254.out 3).trans rfl; have hcz8_4 : w7.cell? ⟨gb254, 4, none⟩ = some (.bool a0_4) := (bcl BK254.out 4).trans rfl; have hcz8_5 : w7.cell? ⟨gb254, 5, none⟩ = some (.bool a0_5) := (bcl BK254.out 5).trans rfl; have hcz8_6 : w7.cell? ⟨gb254, 6, none⟩ = some (.int .i64 a0_6) := (bcl BK254.out 6).trans rfl; have hcz8_7 : w7.cell? ⟨gb254, 7, none⟩ = some (.bool a0_7) := (bcl BK254.out 7).trans rfl; have hfz8_0 := bfz BK254.out 0; have hfz8_1 := bfz BK254.out 1; have hfz8_2 := bfz BK254.out 2; have hfz8_3 := bfz BK254.out 3; have hfz8_4 := bfz BK254.out 4; have hfz8_5 := bfz BK254.out 5; have hfz8_6 := bfz BK254.out 6; have hfz8_7 := bfz BK254.out 7) | ((with_reducible refine gate_callee (f := 27) rfl ?_); refine goesL_ (some 10) rfl rfl Tryd.func27 (by kernel_rfl) rfl #[.agg #[.bool a0_0, .slice A0_1 l0_1.length c0_1, .slice A0_2 l0_2.length c0_2, .slice A0_3 l0_3.length c0_3, .bool a0_4, .bool a0_5, .int .i64 a0_6, .bool a0_7]] rfl (by (try simp only [List.map_toArray, List.map_cons, List.map_nil]); first | done | rfl | (simp only [List.length_drop, List.length_take]; rfl)) ?_; (with_reducible refine (r37_Lost.calls k a0_0 _ _ l0_1 _ _ l0_2 _ _ l0_3 a0_4 a0_5 a0_6 a0_7 t255 _ ?side1 ?side2 ?side3 ?side4 ?side5 ?side6 A5.out).mono ?_); (case side1 => repeat (first | exact (Kd.C_below HR0_1.out HB.out) | (with_reducible refine Kd.C_alloc ?_ _) | (with_reducible refine Kd.C_drewN ?_ _) | (with_reducible refine Kd.C_drew ?_))); (case side2 => exact HC0_1.out); (case side3 => repeat (first | exact (Kd.C_below HR0_2.out HB.out) | (with_reducible refine Kd.C_alloc ?_ _) | (with_reducible refine Kd.C_drewN ?_ _) | (with_reducible refine Kd.C_drew ?_))); (case side4 => exact HC0_2.out); (case side5 => repeat (first | exact (Kd.C_below HR0_3.out HB.out) | (with_reducible refine Kd.C_alloc ?_ _) | (with_reducible refine Kd.C_drewN ?_ _) | (with_reducible refine Kd.C_drew ?_))); (case side6 => exact HC0_3.out); rintro e w9 ⟨v256, rfl, ho0, hb⟩; refine ⟨_, rfl, ?_⟩; have n0_ := am (Kd.R_lower ho0 (below_size (by repeat (first | (with_reducible first | exact HB.out | apply bal | apply bdn | apply bd1 | refine bst ?_ GE254.out) | exact HB.out)))); have n1_ := am (blk_below (g := gb254) (o := .cells #[.bool a0_0, .slice A0_1 l0_1.length c0_1, .slice A0_2 l0_2.length c0_2, .slice A0_3 l0_3.length c0_3, .bool a0_4, .bool a0_5, .int .i64 a0_6, .bool a0_7] 24 (0, 0)) (by (with_reducible repeat (first | refine kdn ?_ _ | refine kdr ?_ | refine kal ?_ _)); exact BK254.out) hb); have n2_ := am (below_step (by repeat (first | (with_reducible first | exact HB.out | apply bal | apply bdn | apply bd1 | refine bst ?_ GE254.out) | exact HB.out)) hb); clear BK254; clear HB; have HO257 := n0_; have BK254 := n1_; have HB := n2_; clear n0_ n1_ n2_; (try clear hb); (try clear hb2); (try clear hk); (try clear hi); (try clear ho0)))
  (try simp only [Act.put, sb1, sb2, sb3])
  go_cut [18] (fun v18 wc => ∃ (kq : Nat) (x18_5 : Bool), v18 = .bool x18_5 ∧ Aside0 (r37_Decide.j0 kq t255 x18_5 a0_0 l0_1 l0_2 l0_3 a0_4 a0_5 a0_6 a0_7 = some r) ∧ Aside0 (kq ≤ k) ∧ Aside0 (Kd.R k42 42 wc w.heap.size (fun _ => True) v256 t255) ∧ Aside0 (wc.heap[gb254]? = some (.cells #[.bool a0_0, (.slice A0_1 l0_1.length c0_1), (.slice A0_2 l0_2.length c0_2), (.slice A0_3 l0_3.length c0_3), .bool a0_4, .bool a0_5, .int .i64 a0_6, .bool a0_7] 24 (0, 0))) ∧ Aside0 (Below w.heap.size w wc))
  case first =>
   have H := HC6.out
   clear HC6
   by_cases c10 : (t255.length : Int) > 0
   ·rw [if_pos c10] at H
    have c10b0 : decide (0 < (t255.length : Int)) = true := decide_eq_true c10
    have c10b1 : decide (0 < t255.length) = true := decide_eq_true (by omega)
    clear c10
    (first | rw [c10b0] | (simp only [i64_w, i32_w]; rw [c10b0]) | skip)
    have H' := am H
    clear H
    obtain ⟨Ao11, co11, eo11⟩ := Kd.R_slice HO257.out
    subst eo11
    have hcz12_0 : w9.cell? ⟨gb254, 0, none⟩ = some (.bool a0_0) := (bcl BK254.out 0).trans rfl
    have hcz12_1 : w9.cell? ⟨gb254, 1, none⟩ = some (.slice A0_1 l0_1.length c0_1) := (bcl BK254.out 1).trans rfl
    have hcz12_2 : w9.cell? ⟨gb254, 2, none⟩ = some (.slice A0_2 l0_2.length c0_2) := (bcl BK254.out 2).trans rfl
    have hcz12_3 : w9.cell? ⟨gb254, 3, none⟩ = some (.slice A0_3 l0_3.length c0_3) := (bcl BK254.out 3).trans rfl
    have hcz12_4 : w9.cell? ⟨gb254, 4, none⟩ = some (.bool a0_4) := (bcl BK254.out 4).trans rfl
    have hcz12_5 : w9.cell? ⟨gb254, 5, none⟩ = some (.bool a0_5) := (bcl BK254.out 5).trans rfl
    have hcz12_6 : w9.cell? ⟨gb254, 6, none⟩ = some (.int .i64 a0_6) := (bcl BK254.out 6).trans rfl
    have hcz12_7 : w9.cell? ⟨gb254, 7, none⟩ = some (.bool a0_7) := (bcl BK254.out 7).trans rfl
    have hfz12_0 := bfz BK254.out 0
    have hfz12_1 := bfz BK254.out 1
    have hfz12_2 := bfz BK254.out 2
    have hfz12_3 := bfz BK254.out 3
    have hfz12_4 := bfz BK254.out 4
    have hfz12_5 := bfz BK254.out 5
    have hfz12_6 := bfz BK254.out 6
    have hfz12_7 := bfz BK254.out 7
    go_wp2
    go_meet
    case rel => exact ⟨_, (!a0_0), (by first | rfl | (simp; done) | (simp [*]; done)), H', ⟨by first | omega | exact Nat.le_refl _⟩, ⟨by (with_reducible repeat (first | apply Kd.R_alloc | apply Kd.R_drewN | apply Kd.R_drew)); exact HO257.out⟩, ⟨by (with_reducible repeat (first | refine kdn ?_ _ | refine kdr ?_ | refine kal ?_ _)); exact BK254.out⟩, ⟨by repeat (first | (with_reducible first | exact HB.out | apply bal | apply bdn | apply bd1 | refine bst ?_ GE254.out) | exact HB.out)⟩⟩
   ·rw [if_neg c10] at H
    have c10b0 : decide (0 < (t255.length : Int)) = false := decide_eq_false c10
    have c10b1 : decide (0 < t255.length) = false := decide_eq_false (by omega)
    clear c10
    (first | rw [c10b0] | (simp only [i64_w, i32_w]; rw [c10b0]) | skip)
    have H' := am H
    clear H
    obtain ⟨Ao13, co13, eo13⟩ := Kd.R_slice HO257.out
    subst eo13
    go_wp2
    go_meet
    case rel => exact ⟨_, (false), (by first | rfl | (simp; done) | (simp [*]; done)), H', ⟨by first | omega | exact Nat.le_refl _⟩, ⟨by (with_reducible repeat (first | apply Kd.R_alloc | apply Kd.R_drewN | apply Kd.R_drew)); exact HO257.out⟩, ⟨by (with_reducible repeat (first | refine kdn ?_ _ | refine kdr ?_ | refine kal ?_ _)); exact BK254.out⟩, ⟨by repeat (first | (with_reducible first | exact HB.out | apply bal | apply bdn | apply bd1 | refine bst ?_ GE254.out) | exact HB.out)⟩⟩
  case rest =>
   clear HC6
   try clear c1
   try clear c2
   try clear c2b0
   try clear c2b1
   try clear c2b2
   try clear p2
   try clear c10
   try clear c10b0
   try clear c10b1
   try clear hcz12_0
   try clear hcz12_1
   try clear hcz12_2
   try clear hcz12_3
   try clear hcz12_4
   try clear hcz12_5
   try clear hcz12_6
   try clear hcz12_7
   try clear hcz4_0
   try clear hcz4_1
   try clear hcz4_2
   try clear hcz4_3
   try clear hcz4_4
   try clear hcz4_5
   try clear hcz4_6
   try clear hcz4_7
   try clear hcz8_0
   try clear hcz8_1
   try clear hcz8_2
   try clear hcz8_3
   try clear hcz8_4
   try clear hcz8_5
   try clear hcz8_6
   try clear hcz8_7
   try clear hfz12_0
   try clear hfz12_1
   try clear hfz12_2
   try clear hfz12_3
   try clear hfz12_4
   try clear hfz12_5
   try clear hfz12_6
   try clear hfz12_7
   try clear hfz4_0
   try clear hfz4_1
   try clear hfz4_2
   try clear hfz4_3
   try clear hfz4_4
   try clear hfz4_5
   try clear hfz4_6
   try clear hfz4_7
   try clear hfz8_0
   try clear hfz8_1
   try clear hfz8_2
   try clear hfz8_3
   try clear hfz8_4
   try clear hfz8_5
   try clear hfz8_6
   try clear hfz8_7
   obtain ⟨kq, x18_5, rfl, HA, HJ5, HO_3, BK254, HB⟩ := hcut
   cases kq with
   | zero => exact absurd HA.out (by simp [r37_Decide.j0])
   | succ kj5 =>
    have H := HA.out
    clear HA
    simp only [r37_Decide.j0] at H
    by_cases c14 : x18_5 = true
    ·subst c14
     have H1 : (if a0_6 > 0 then (some 4) else (some 5)) = some r := by rw [if_pos rfl] at H; exact H
     clear H
     have H := H1
     clear H1
     by_cases c15 : a0_6 > 0
     ·rw [if_pos c15] at H
      have c15b0 : decide (0 < a0_6) = true := decide_eq_true c15
      clear c15
      obtain rfl := Option.some.inj H
      have hcz16_0 : wc.cell? ⟨gb254, 0, none⟩ = some (.bool a0_0) := (bcl BK254.out 0).trans rfl
      have hcz16_1 : wc.cell? ⟨gb254, 1, none⟩ = some (.slice A0_1 l0_1.length c0_1) := (bcl BK254.out 1).trans rfl
      have hcz16_2 : wc.cell? ⟨gb254, 2, none⟩ = some (.slice A0_2 l0_2.length c0_2) := (bcl BK254.out 2).trans rfl
      have hcz16_3 : wc.cell? ⟨gb254, 3, none⟩ = some (.slice A0_3 l0_3.length c0_3) := (bcl BK254.out 3).trans rfl
      have hcz16_4 : wc.cell? ⟨gb254, 4, none⟩ = some (.bool a0_4) := (bcl BK254.out 4).trans rfl
      have hcz16_5 : wc.cell? ⟨gb254, 5, none⟩ = some (.bool a0_5) := (bcl BK254.out 5).trans rfl
      have hcz16_6 : wc.cell? ⟨gb254, 6, none⟩ = some (.int .i64 a0_6) := (bcl BK254.out 6).trans rfl
      have hcz16_7 : wc.cell? ⟨gb254, 7, none⟩ = some (.bool a0_7) := (bcl BK254.out 7).trans rfl
      have hfz16_0 := bfz BK254.out 0
      have hfz16_1 := bfz BK254.out 1
      have hfz16_2 := bfz BK254.out 2
      have hfz16_3 := bfz BK254.out 3
      have hfz16_4 := bfz BK254.out 4
      have hfz16_5 := bfz BK254.out 5
      have hfz16_6 := bfz BK254.out 6
      have hfz16_7 := bfz BK254.out 7
      go_wp2
      go_ret
      exact ⟨by first | rfl | (simp [errW_none, errW_some] <;> rfl) | (simp [*, errW_none, errW_some] <;> rfl), by repeat (first | (with_reducible first | exact HB.out | apply bal | apply bdn | apply bd1 | refine bst ?_ GE254.out) | exact HB.out)⟩
     ·rw [if_neg c15] at H
      have c15b0 : decide (0 < a0_6) = false := decide_eq_false c15
      clear c15
      obtain rfl := Option.some.inj H
      have hcz17_0 : wc.cell? ⟨gb254, 0, none⟩ = some (.bool a0_0) := (bcl BK254.out 0).trans rfl
      have hcz17_1 : wc.cell? ⟨gb254, 1, none⟩ = some (.slice A0_1 l0_1.length c0_1) := (bcl BK254.out 1).trans rfl
      have hcz17_2 : wc.cell? ⟨gb254, 2, none⟩ = some (.slice A0_2 l0_2.length c0_2) := (bcl BK254.out 2).trans rfl
      have hcz17_3 : wc.cell? ⟨gb254, 3, none⟩ = some (.slice A0_3 l0_3.length c0_3) := (bcl BK254.out 3).trans rfl
      have hcz17_4 : wc.cell? ⟨gb254, 4, none⟩ = some (.bool a0_4) := (bcl BK254.out 4).trans rfl
      have hcz17_5 : wc.cell? ⟨gb254, 5, none⟩ = some (.bool a0_5) := (bcl BK254.out 5).trans rfl
      have hcz17_6 : wc.cell? ⟨gb254, 6, none⟩ = some (.int .i64 a0_6) := (bcl BK254.out 6).trans rfl
      have hcz17_7 : wc.cell? ⟨gb254, 7, none⟩ = some (.bool a0_7) := (bcl BK254.out 7).trans rfl
      have hfz17_0 := bfz BK254.out 0
      have hfz17_1 := bfz BK254.out 1
      have hfz17_2 := bfz BK254.out 2
      have hfz17_3 := bfz BK254.out 3
      have hfz17_4 := bfz BK254.out 4
      have hfz17_5 := bfz BK254.out 5
      have hfz17_6 := bfz BK254.out 6
      have hfz17_7 := bfz BK254.out 7
      go_wp2
      go_ret
      exact ⟨by first | rfl | (simp [errW_none, errW_some] <;> rfl) | (simp [*, errW_none, errW_some] <;> rfl), by repeat (first | (with_reducible first | exact HB.out | apply bal | apply bdn | apply bd1 | refine bst ?_ GE254.out) | exact HB.out)⟩
    ·replace c14 := Bool.eq_false_iff.mpr c14
     subst c14
     have H1 : (if 0 < (l0_1.length : Int) then ((r02_In.f kj5 l0_2 ((rd_T42 l0_1 0).f0)).bind fun t259 => (if t259 = true then (some 1) else ((r02_In.f kj5 l0_3 ((rd_T42 l0_1 0).f0)).bind fun t260 => (if t260 = true then (some 2) else (if (t255.length : Int) > 0 then (some 5) else (some 3)))))) else (none)) = some r := by rw [if_neg (show ¬ (false = true) by decide)] at H; exact H
     clear H
     have H := H1
     clear H1
     by_cases c18 : 0 < (l0_1.length : Int)
     ·rw [if_pos c18] at H
      have c18b0 : decide (0 < (l0_1.length : Int)) = true := decide_eq_true c18
      have c18b1 : decide (0 < l0_1.length) = true := decide_eq_true (by omega)
      clear c18
      replace H := Option.bind_eq_some_iff.mp H
      obtain ⟨t259, A190, H⟩ := H
      replace H : (if t259 = true then (some 1) else ((r02_In.f kj5 l0_3 ((rd_T42 l0_1 0).f0)).bind fun t260 => (if t260 = true then (some 2) else (if (t255.length : Int) > 0 then (some 5) else (some 3))))) = some r := H
      have A19 := am A190
      clear A190
      by_cases c20 : t259 = true
      ·subst c20
       have H1 : (some 1) = some r := by rw [if_pos rfl] at H; exact H
       clear H
       have H := H1
       clear H1
       obtain rfl := Option.some.inj H
       have hcz21_0 : wc.cell? ⟨gb254, 0, none⟩ = some (.bool a0_0) := (bcl BK254.out 0).trans rfl
       have hcz21_1 : wc.cell? ⟨gb254, 1, none⟩ = some (.slice A0_1 l0_1.length c0_1) := (bcl BK254.out 1).trans rfl
       have hcz21_2 : wc.cell? ⟨gb254, 2, none⟩ = some (.slice A0_2 l0_2.length c0_2) := (bcl BK254.out 2).trans rfl
       have hcz21_3 : wc.cell? ⟨gb254, 3, none⟩ = some (.slice A0_3 l0_3.length c0_3) := (bcl BK254.out 3).trans rfl
       have hcz21_4 : wc.cell? ⟨gb254, 4, none⟩ = some (.bool a0_4) := (bcl BK254.out 4).trans rfl
       have hcz21_5 : wc.cell? ⟨gb254, 5, none⟩ = some (.bool a0_5) := (bcl BK254.out 5).trans rfl
       have hcz21_6 : wc.cell? ⟨gb254, 6, none⟩ = some (.int .i64 a0_6) := (bcl BK254.out 6).trans rfl
       have hcz21_7 : wc.cell? ⟨gb254, 7, none⟩ = some (.bool a0_7) := (bcl BK254.out 7).trans rfl
       have hfz21_0 := bfz BK254.out 0
       have hfz21_1 := bfz BK254.out 1
       have hfz21_2 := bfz BK254.out 2
       have hfz21_3 := bfz BK254.out 3
       have hfz21_4 := bfz BK254.out 4
       have hfz21_5 := bfz BK254.out 5
       have hfz21_6 := bfz BK254.out 6
       have hfz21_7 := bfz BK254.out 7
       have p258 : 0 ≤ (0 : Int) := (by omega)
       have q258 : 0 < (l0_1.length : Int) := of_decide_eq_true (by first | (with_reducible assumption) | assumption)
       obtain ⟨ad258, e258, hx258_0, hx258_1⟩ := at_T42 HR0_1.out 0 p258 q258
       cases e258
       have qi258 : (0 < l0_1.length) = True := eq_true (by omega)
       (try rw [show ((0 : Int)).toNat = 0 from rfl] at hx258_0)
       (try rw [show 0 * 2 = 0 from rfl] at hx258_0)
       (try rw [Addr.add_zero'] at hx258_0)
       (try rw [show ((0 : Int)).toNat = 0 from rfl] at hx258_1)
       (try rw [show 0 * 2 = 0 from rfl] at hx258_1)
       (try rw [Addr.add_zero'] at hx258_1)
       replace hx258_0 := (HB.out.cell (World.block_lt_of_cell? w _ hx258_0)).trans hx258_0
       replace hx258_1 := (HB.out.cell (World.block_lt_of_cell? w _ hx258_1)).trans hx258_1
       replace p258 := eq_true p258
       replace q258 := eq_true q258
       go_wp2_with (first | ((with_reducible refine gate_callee (f := 36) rfl ?_); refine goesL_ (some 30) rfl rfl Tryd.func36 (by kernel_rfl) rfl #[.slice A0_2 l0_2.length c0_2, .int .i64 ((rd_T42 l0_1 0).f0)] rfl (by (try simp only [List.map_toArray, List.map_cons, List.map_nil]); first | done | rfl | (simp only [List.length_drop, List.length_take]; rfl)) ?_; (with_reducible refine (r02_In.calls kj5 _ _ l0_2 ((rd_T42 l0_1 0).f0) true _ ?side1 ?side2 A19.out).mono ?_); (case side1 => repeat (first | exact (Kd.C_below HR0_2.out HB.out) | (with_reducible refine Kd.C_alloc ?_ _) | (with_reducible refine Kd.C_drewN ?_ _) | (with_reducible refine Kd.C_drew ?_))); (case side2 => exact HC0_2.out); rintro e w22 ⟨rfl, hb⟩; refine ⟨_, rfl, ?_⟩; have n0_ := am (Kd.R_below (by (with_reducible repeat (first | apply Kd.R_alloc | apply Kd.R_drewN | apply Kd.R_drew)); exact HO_3.out) hb); have n1_ := am (blk_below (g := gb254) (o := .cells #[.bool a0_0, .slice (some ad258) l0_1.length c0_1, .slice A0_2 l0_2.length c0_2, .slice A0_3 l0_3.length c0_3, .bool a0_4, .bool a0_5, .int .i64 a0_6, .bool a0_7] 24 (0, 0)) (by (with_reducible repeat (first | refine kdn ?_ _ | refine kdr ?_ | refine kal ?_ _)); exact BK254.out) hb); have n2_ := am (below_step (by repeat (first | (with_reducible first | exact HB.out | apply bal | apply bdn | apply bd1 | refine bst ?_ GE254.out) | exact HB.out)) hb); clear HO_3; clear BK254; clear HB; have HO_3 := n0_; have BK254 := n1_; have HB := n2_; clear n0_ n1_ n2_; (try clear hb); (try clear hb2); (try clear hk); (try clear hi)))
       go_ret
       exact ⟨by first | rfl | (simp [errW_none, errW_some] <;> rfl) | (simp [*, errW_none, errW_some] <;> rfl), by repeat (first | (with_reducible first | exact HB.out | apply bal | apply bdn | apply bd1 | refine bst ?_ GE254.out) | exact HB.out)⟩
      ·replace c20 := Bool.eq_false_iff.mpr c20
       subst c20
       have H1 : ((r02_In.f kj5 l0_3 ((rd_T42 l0_1 0).f0)).bind fun t260 => (if t260 = true then (some 2) else (if (t255.length : Int) > 0 then (some 5) else (some 3)))) = some r := by rw [if_neg (show ¬ (false = true) by decide)] at H; exact H
       clear H
       have H := H1
       clear H1
       replace H := Option.bind_eq_some_iff.mp H
       obtain ⟨t260, A230, H⟩ := H
       replace H : (if t260 = true then (some 2) else (if (t255.length : Int) > 0 then (some 5) else (some 3))) = some r := H
       have A23 := am A230
       clear A230
       by_cases c24 : t260 = true
       ·subst c24
        have H1 : (some 2) = some r := by rw [if_pos rfl] at H; exact H
        clear H
        have H := H1
        clear H1
        obtain rfl := Option.some.inj H
        have hcz25_0 : wc.cell? ⟨gb254, 0, none⟩ = some (.bool a0_0) := (bcl BK254.out 0).trans rfl
        have hcz25_1 : wc.cell? ⟨gb254, 1, none⟩ = some (.slice A0_1 l0_1.length c0_1) := (bcl BK254.out 1).trans rfl
        have hcz25_2 : wc.cell? ⟨gb254, 2, none⟩ = some (.slice A0_2 l0_2.length c0_2) := (bcl BK254.out 2).trans rfl
        have hcz25_3 : wc.cell? ⟨gb254, 3, none⟩ = some (.slice A0_3 l0_3.length c0_3) := (bcl BK254.out 3).trans rfl
        have hcz25_4 : wc.cell? ⟨gb254, 4, none⟩ = some (.bool a0_4) := (bcl BK254.out 4).trans rfl
        have hcz25_5 : wc.cell? ⟨gb254, 5, none⟩ = some (.bool a0_5) := (bcl BK254.out 5).trans rfl
        have hcz25_6 : wc.cell? ⟨gb254, 6, none⟩ = some (.int .i64 a0_6) := (bcl BK254.out 6).trans rfl
        have hcz25_7 : wc.cell? ⟨gb254, 7, none⟩ = some (.bool a0_7) := (bcl BK254.out 7).trans rfl
        have hfz25_0 := bfz BK254.out 0
        have hfz25_1 := bfz BK254.out 1
        have hfz25_2 := bfz BK254.out 2
        have hfz25_3 := bfz BK254.out 3
        have hfz25_4 := bfz BK254.out 4
        have hfz25_5 := bfz BK254.out 5
        have hfz25_6 := bfz BK254.out 6
        have hfz25_7 := bfz BK254.out 7
        have p258 : 0 ≤ (0 : Int) := (by omega)
        have q258 : 0 < (l0_1.length : Int) := of_decide_eq_true (by first | (with_reducible assumption) | assumption)
        obtain ⟨ad258, e258, hx258_0, hx258_1⟩ := at_T42 HR0_1.out 0 p258 q258
        cases e258
        have qi258 : (0 < l0_1.length) = True := eq_true (by omega)
        (try rw [show ((0 : Int)).toNat = 0 from rfl] at hx258_0)
        (try rw [show 0 * 2 = 0 from rfl] at hx258_0)
        (try rw [Addr.add_zero'] at hx258_0)
        (try rw [show ((0 : Int)).toNat = 0 from rfl] at hx258_1)
        (try rw [show 0 * 2 = 0 from rfl] at hx258_1)
        (try rw [Addr.add_zero'] at hx258_1)
        replace hx258_0 := (HB.out.cell (World.block_lt_of_cell? w _ hx258_0)).trans hx258_0
        replace hx258_1 := (HB.out.cell (World.block_lt_of_cell? w _ hx258_1)).trans hx258_1
        replace p258 := eq_true p258
        replace q258 := eq_true q258
        go_wp2_with (first | ((with_reducible refine gate_callee (f := 36) rfl ?_); refine goesL_ (some 30) rfl rfl Tryd.func36 (by kernel_rfl) rfl #[.slice A0_2 l0_2.length c0_2, .int .i64 ((rd_T42 l0_1 0).f0)] rfl (by (try simp only [List.map_toArray, List.map_cons, List.map_nil]); first | done | rfl | (simp only [List.length_drop, List.length_take]; rfl)) ?_; (with_reducible refine (r02_In.calls kj5 _ _ l0_2 ((rd_T42 l0_1 0).f0) false _ ?side1 ?side2 A19.out).mono ?_); (case side1 => repeat (first | exact (Kd.C_below HR0_2.out HB.out) | (with_reducible refine Kd.C_alloc ?_ _) | (with_reducible refine Kd.C_drewN ?_ _) | (with_reducible refine Kd.C_drew ?_))); (case side2 => exact HC0_2.out); rintro e w26 ⟨rfl, hb⟩; refine ⟨_, rfl, ?_⟩; have n0_ := am (Kd.R_below (by (with_reducible repeat (first | apply Kd.R_alloc | apply Kd.R_drewN | apply Kd.R_drew)); exact HO_3.out) hb); have n1_ := am (blk_below (g := gb254) (o := .cells #[.bool a0_0, .slice (some ad258) l0_1.length c0_1, .slice A0_2 l0_2.length c0_2, .slice A0_3 l0_3.length c0_3, .bool a0_4, .bool a0_5, .int .i64 a0_6, .bool a0_7] 24 (0, 0)) (by (with_reducible repeat (first | refine kdn ?_ _ | refine kdr ?_ | refine kal ?_ _)); exact BK254.out) hb); have n2_ := am (below_step (by repeat (first | (with_reducible first | exact HB.out | apply bal | apply bdn | apply bd1 | refine bst ?_ GE254.out) | exact HB.out)) hb); clear HO_3; clear BK254; clear HB; have HO_3 := n0_; have BK254 := n1_; have HB := n2_; clear n0_ n1_ n2_; (try clear hb); (try clear hb2); (try clear hk); (try clear hi); have hcz27_0 : w26.cell? ⟨gb254, 0, none⟩ = some (.bool a0_0) := (bcl BK254.out 0).trans rfl; have hcz27_1 : w26.cell? ⟨gb254, 1, none⟩ = some (.slice (some ad258) l0_1.length c0_1) := (bcl BK254.out 1).trans rfl; have hcz27_2 : w26.cell? ⟨gb254, 2, none⟩ = some (.slice A0_2 l0_2.length c0_2) := (bcl BK254.out 2).trans rfl; have hcz27_3 : w26.cell? ⟨gb254, 3, none⟩ = some (.slice A0_3 l0_3.length c0_3) := (bcl BK254.out 3).trans rfl; have hcz27_4 : w26.cell? ⟨gb254, 4, none⟩ = some (.bool a0_4) := (bcl BK254.out 4).trans rfl; have hcz27_5 : w26.cell? ⟨gb254, 5, none⟩ = some (.bool a0_5) := (bcl BK254.out 5).trans rfl; have hcz27_6 : w26.cell? ⟨gb254, 6, none⟩ = some (.int .i64 a0_6) := (bcl BK254.out 6).trans rfl; have hcz27_7 : w26.cell? ⟨gb254, 7, none⟩ = some (.bool a0_7) := (bcl BK254.out 7).trans rfl; have hfz27_0 := bfz BK254.out 0; have hfz27_1 := bfz BK254.out 1; have hfz27_2 := bfz BK254.out 2; have hfz27_3 := bfz BK254.out 3; have hfz27_4 := bfz BK254.out 4; have hfz27_5 := bfz BK254.out 5; have hfz27_6 := bfz BK254.out 6; have hfz27_7 := bfz BK254.out 7) | ((with_reducible refine gate_callee (f := 36) rfl ?_); refine goesL_ (some 34) rfl rfl Tryd.func36 (by kernel_rfl) rfl #[.slice A0_3 l0_3.length c0_3, .int .i64 ((rd_T42 l0_1 0).f0)] rfl (by (try simp only [List.map_toArray, List.map_cons, List.map_nil]); first | done | rfl | (simp only [List.length_drop, List.length_take]; rfl)) ?_; (with_reducible refine (r02_In.calls kj5 _ _ l0_3 ((rd_T42 l0_1 0).f0) true _ ?side1 ?side2 A23.out).mono ?_); (case side1 => repeat (first | exact (Kd.C_below HR0_3.out HB.out) | (with_reducible refine Kd.C_alloc ?_ _) | (with_reducible refine Kd.C_drewN ?_ _) | (with_reducible refine Kd.C_drew ?_))); (case side2 => exact HC0_3.out); rintro e w28 ⟨rfl, hb⟩; refine ⟨_, rfl, ?_⟩; have n0_ := am (Kd.R_below (by (with_reducible repeat (first | apply Kd.R_alloc | apply Kd.R_drewN | apply Kd.R_drew)); exact HO_3.out) hb); have n1_ := am (blk_below (g := gb254) (o := .cells #[.bool a0_0, .slice (some ad258) l0_1.length c0_1, .slice A0_2 l0_2.length c0_2, .slice A0_3 l0_3.length c0_3, .bool a0_4, .bool a0_5, .int .i64 a0_6, .bool a0_7] 24 (0, 0)) (by (with_reducible repeat (first | refine kdn ?_ _ | refine kdr ?_ | refine kal ?_ _)); exact BK254.out) hb); have n2_ := am (below_step (by repeat (first | (with_reducible first | exact HB.out | apply bal | apply bdn | apply bd1 | refine bst ?_ GE254.out) | exact HB.out)) hb); clear HO_3; clear BK254; clear HB; have HO_3 := n0_; have BK254 := n1_; have HB := n2_; clear n0_ n1_ n2_; (try clear hb); (try clear hb2); (try clear hk); (try clear hi)))
        go_ret
        exact ⟨by first | rfl | (simp [errW_none, errW_some] <;> rfl) | (simp [*, errW_none, errW_some] <;> rfl), by repeat (first | (with_reducible first | exact HB.out | apply bal | apply bdn | apply bd1 | refine bst ?_ GE254.out) | exact HB.out)⟩
       ·replace c24 := Bool.eq_false_iff.mpr c24
        subst c24
        have H1 : (if (t255.length : Int) > 0 then (some 5) else (some 3)) = some r := by rw [if_neg (show ¬ (false = true) by decide)] at H; exact H
        clear H
        have H := H1
        clear H1
        by_cases c29 : (t255.length : Int) > 0
        ·rw [if_pos c29] at H
         have c29b0 : decide (0 < (t255.length : Int)) = true := decide_eq_true c29
         have c29b1 : decide (0 < t255.length) = true := decide_eq_true (by omega)
         clear c29
         obtain rfl := Option.some.inj H
         have hcz30_0 : wc.cell? ⟨gb254, 0, none⟩ = some (.bool a0_0) := (bcl BK254.out 0).trans rfl
         have hcz30_1 : wc.cell? ⟨gb254, 1, none⟩ = some (.slice A0_1 l0_1.length c0_1) := (bcl BK254.out 1).trans rfl
         have hcz30_2 : wc.cell? ⟨gb254, 2, none⟩ = some (.slice A0_2 l0_2.length c0_2) := (bcl BK254.out 2).trans rfl
         have hcz30_3 : wc.cell? ⟨gb254, 3, none⟩ = some (.slice A0_3 l0_3.length c0_3) := (bcl BK254.out 3).trans rfl
         have hcz30_4 : wc.cell? ⟨gb254, 4, none⟩ = some (.bool a0_4) := (bcl BK254.out 4).trans rfl
         have hcz30_5 : wc.cell? ⟨gb254, 5, none⟩ = some (.bool a0_5) := (bcl BK254.out 5).trans rfl
         have hcz30_6 : wc.cell? ⟨gb254, 6, none⟩ = some (.int .i64 a0_6) := (bcl BK254.out 6).trans rfl
         have hcz30_7 : wc.cell? ⟨gb254, 7, none⟩ = some (.bool a0_7) := (bcl BK254.out 7).trans rfl
         have hfz30_0 := bfz BK254.out 0
         have hfz30_1 := bfz BK254.out 1
         have hfz30_2 := bfz BK254.out 2
         have hfz30_3 := bfz BK254.out 3
         have hfz30_4 := bfz BK254.out 4
         have hfz30_5 := bfz BK254.out 5
         have hfz30_6 := bfz BK254.out 6
         have hfz30_7 := bfz BK254.out 7
         have p258 : 0 ≤ (0 : Int) := (by omega)
         have q258 : 0 < (l0_1.length : Int) := of_decide_eq_true (by first | (with_reducible assumption) | assumption)
         obtain ⟨ad258, e258, hx258_0, hx258_1⟩ := at_T42 HR0_1.out 0 p258 q258
         cases e258
         have qi258 : (0 < l0_1.length) = True := eq_true (by omega)
         (try rw [show ((0 : Int)).toNat = 0 from rfl] at hx258_0)
         (try rw [show 0 * 2 = 0 from rfl] at hx258_0)
         (try rw [Addr.add_zero'] at hx258_0)
         (try rw [show ((0 : Int)).toNat = 0 from rfl] at hx258_1)
         (try rw [show 0 * 2 = 0 from rfl] at hx258_1)
         (try rw [Addr.add_zero'] at hx258_1)
         replace hx258_0 := (HB.out.cell (World.block_lt_of_cell? w _ hx258_0)).trans hx258_0
         replace hx258_1 := (HB.out.cell (World.block_lt_of_cell? w _ hx258_1)).trans hx258_1
         replace p258 := eq_true p258
         replace q258 := eq_true q258
         go_wp2_with (first | ((with_reducible refine gate_callee (f := 36) rfl ?_); refine goesL_ (some 30) rfl rfl Tryd.func36 (by kernel_rfl) rfl #[.slice A0_2 l0_2.length c0_2, .int .i64 ((rd_T42 l0_1 0).f0)] rfl (by (try simp only [List.map_toArray, List.map_cons, List.map_nil]); first | done | rfl | (simp only [List.length_drop, List.length_take]; rfl)) ?_; (with_reducible refine (r02_In.calls kj5 _ _ l0_2 ((rd_T42 l0_1 0).f0) false _ ?side1 ?side2 A19.out).mono ?_); (case side1 => repeat (first | exact (Kd.C_below HR0_2.out HB.out) | (with_reducible refine Kd.C_alloc ?_ _) | (with_reducible refine Kd.C_drewN ?_ _) | (with_reducible refine Kd.C_drew ?_))); (case side2 => exact HC0_2.out); rintro e w31 ⟨rfl, hb⟩; refine ⟨_, rfl, ?_⟩; have n0_ := am (Kd.R_below (by (with_reducible repeat (first | apply Kd.R_alloc | apply Kd.R_drewN | apply Kd.R_drew)); exact HO_3.out) hb); have n1_ := am (blk_below (g := gb254) (o := .cells #[.bool a0_0, .slice (some ad258) l0_1.length c0_1, .slice A0_2 l0_2.length c0_2, .slice A0_3 l0_3.length c0_3, .bool a0_4, .bool a0_5, .int .i64 a0_6, .bool a0_7] 24 (0, 0)) (by (with_reducible repeat (first | refine kdn ?_ _ | refine kdr ?_ | refine kal ?_ _)); exact BK254.out) hb); have n2_ := am (below_step (by repeat (first | (with_reducible first | exact HB.out | apply bal | apply bdn | apply bd1 | refine bst ?_ GE254.out) | exact HB.out)) hb); clear HO_3; clear BK254; clear HB; have HO_3 := n0_; have BK254 := n1_; have HB := n2_; clear n0_ n1_ n2_; (try clear hb); (try clear hb2); (try clear hk); (try clear hi); have hcz32_0 : w31.cell? ⟨gb254, 0, none⟩ = some (.bool a0_0) := (bcl BK254.out 0).trans rfl; have hcz32_1 : w31.cell? ⟨gb254, 1, none⟩ = some (.slice (some ad258) l0_1.length c0_1) := (bcl BK254.out 1).trans rfl; have hcz32_2 : w31.cell? ⟨gb254, 2, none⟩ = some (.slice A0_2 l0_2.length c0_2) := (bcl BK254.out 2).trans rfl; have hcz32_3 : w31.cell? ⟨gb254, 3, none⟩ = some (.slice A0_3 l0_3.length c0_3) := (bcl BK254.out 3).trans rfl; have hcz32_4 : w31.cell? ⟨gb254, 4, none⟩ = some (.bool a0_4) := (bcl BK254.out 4).trans rfl; have hcz32_5 : w31.cell? ⟨gb254, 5, none⟩ = some (.bool a0_5) := (bcl BK254.out 5).trans rfl; have hcz32_6 : w31.cell? ⟨gb254, 6, none⟩ = some (.int .i64 a0_6) := (bcl BK254.out 6).trans rfl; have hcz32_7 : w31.cell? ⟨gb254, 7, none⟩ = some (.bool a0_7) := (bcl BK254.out 7).trans rfl; have hfz32_0 := bfz BK254.out 0; have hfz32_1 := bfz BK254.out 1; have hfz32_2 := bfz BK254.out 2; have hfz32_3 := bfz BK254.out 3; have hfz32_4 := bfz BK254.out 4; have hfz32_5 := bfz BK254.out 5; have hfz32_6 := bfz BK254.out 6; have hfz32_7 := bfz BK254.out 7) | ((with_reducible refine gate_callee (f := 36) rfl ?_); refine goesL_ (some 34) rfl rfl Tryd.func36 (by kernel_rfl) rfl #[.slice A0_3 l0_3.length c0_3, .int .i64 ((rd_T42 l0_1 0).f0)] rfl (by (try simp only [List.map_toArray, List.map_cons, List.map_nil]); first | done | rfl | (simp only [List.length_drop, List.length_take]; rfl)) ?_; (with_reducible refine (r02_In.calls kj5 _ _ l0_3 ((rd_T42 l0_1 0).f0) false _ ?side1 ?side2 A23.out).mono ?_); (case side1 => repeat (first | exact (Kd.C_below HR0_3.out HB.out) | (with_reducible refine Kd.C_alloc ?_ _) | (with_reducible refine Kd.C_drewN ?_ _) | (with_reducible refine Kd.C_drew ?_))); (case side2 => exact HC0_3.out); rintro e w33 ⟨rfl, hb⟩; refine ⟨_, rfl, ?_⟩; have n0_ := am (Kd.R_below (by (with_reducible repeat (first | apply Kd.R_alloc | apply Kd.R_drewN | apply Kd.R_drew)); exact HO_3.out) hb); have n1_ := am (blk_below (g := gb254) (o := .cells #[.bool a0_0, .slice (some ad258) l0_1.length c0_1, .slice A0_2 l0_2.length c0_2, .slice A0_3 l0_3.length c0_3, .bool a0_4, .bool a0_5, .int .i64 a0_6, .bool a0_7] 24 (0, 0)) (by (with_reducible repeat (first | refine kdn ?_ _ | refine kdr ?_ | refine kal ?_ _)); exact BK254.out) hb); have n2_ := am (below_step (by repeat (first | (with_reducible first | exact HB.out | apply bal | apply bdn | apply bd1 | refine bst ?_ GE254.out) | exact HB.out)) hb); clear HO_3; clear BK254; clear HB; have HO_3 := n0_; have BK254 := n1_; have HB := n2_; clear n0_ n1_ n2_; (try clear hb); (try clear hb2); (try clear hk); (try clear hi); obtain ⟨Ao34, co34, eo34⟩ := Kd.R_slice HO_3.out; subst eo34))
         go_ret
         exact ⟨by first | rfl | (simp [errW_none, errW_some] <;> rfl) | (simp [*, errW_none, errW_some] <;> rfl), by repeat (first | (with_reducible first | exact HB.out | apply bal | apply bdn | apply bd1 | refine bst ?_ GE254.out) | exact HB.out)⟩
        ·rw [if_neg c29] at H
         have c29b0 : decide (0 < (t255.length : Int)) = false := decide_eq_false c29
         have c29b1 : decide (0 < t255.length) = false := decide_eq_false (by omega)
         clear c29
         obtain rfl := Option.some.inj H
         have hcz35_0 : wc.cell? ⟨gb254, 0, none⟩ = some (.bool a0_0) := (bcl BK254.out 0).trans rfl
         have hcz35_1 : wc.cell? ⟨gb254, 1, none⟩ = some (.slice A0_1 l0_1.length c0_1) := (bcl BK254.out 1).trans rfl
         have hcz35_2 : wc.cell? ⟨gb254, 2, none⟩ = some (.slice A0_2 l0_2.length c0_2) := (bcl BK254.out 2).trans rfl
         have hcz35_3 : wc.cell? ⟨gb254, 3, none⟩ = some (.slice A0_3 l0_3.length c0_3) := (bcl BK254.out 3).trans rfl
         have hcz35_4 : wc.cell? ⟨gb254, 4, none⟩ = some (.bool a0_4) := (bcl BK254.out 4).trans rfl
         have hcz35_5 : wc.cell? ⟨gb254, 5, none⟩ = some (.bool a0_5) := (bcl BK254.out 5).trans rfl
         have hcz35_6 : wc.cell? ⟨gb254, 6, none⟩ = some (.int .i64 a0_6) := (bcl BK254.out 6).trans rfl
         have hcz35_7 : wc.cell? ⟨gb254, 7, none⟩ = some (.bool a0_7) := (bcl BK254.out 7).trans rfl
         have hfz35_0 := bfz BK254.out 0
         have hfz35_1 := bfz BK254.out 1
         have hfz35_2 := bfz BK254.out 2
         have hfz35_3 := bfz BK254.out 3
         have hfz35_4 := bfz BK254.out 4
         have hfz35_5 := bfz BK254.out 5
         have hfz35_6 := bfz BK254.out 6
         have hfz35_7 := bfz BK254.out 7
         have p258 : 0 ≤ (0 : Int) := (by omega)
         have q258 : 0 < (l0_1.length : Int) := of_decide_eq_true (by first | (with_reducible assumption) | assumption)
         obtain ⟨ad258, e258, hx258_0, hx258_1⟩ := at_T42 HR0_1.out 0 p258 q258
         cases e258
         have qi258 : (0 < l0_1.length) = True := eq_true (by omega)
         (try rw [show ((0 : Int)).toNat = 0 from rfl] at hx258_0)
         (try rw [show 0 * 2 = 0 from rfl] at hx258_0)
         (try rw [Addr.add_zero'] at hx258_0)
         (try rw [show ((0 : Int)).toNat = 0 from rfl] at hx258_1)
         (try rw [show 0 * 2 = 0 from rfl] at hx258_1)
         (try rw [Addr.add_zero'] at hx258_1)
         replace hx258_0 := (HB.out.cell (World.block_lt_of_cell? w _ hx258_0)).trans hx258_0
         replace hx258_1 := (HB.out.cell (World.block_lt_of_cell? w _ hx258_1)).trans hx258_1
         replace p258 := eq_true p258
         replace q258 := eq_true q258
         go_wp2_with (first | ((with_reducible refine gate_callee (f := 36) rfl ?_); refine goesL_ (some 30) rfl rfl Tryd.func36 (by kernel_rfl) rfl #[.slice A0_2 l0_2.length c0_2, .int .i64 ((rd_T42 l0_1 0).f0)] rfl (by (try simp only [List.map_toArray, List.map_cons, List.map_nil]); first | done | rfl | (simp only [List.length_drop, List.length_take]; rfl)) ?_; (with_reducible refine (r02_In.calls kj5 _ _ l0_2 ((rd_T42 l0_1 0).f0) false _ ?side1 ?side2 A19.out).mono ?_); (case side1 => repeat (first | exact (Kd.C_below HR0_2.out HB.out) | (with_reducible refine Kd.C_alloc ?_ _) | (with_reducible refine Kd.C_drewN ?_ _) | (with_reducible refine Kd.C_drew ?_))); (case side2 => exact HC0_2.out); rintro e w36 ⟨rfl, hb⟩; refine ⟨_, rfl, ?_⟩; have n0_ := am (Kd.R_below (by (with_reducible repeat (first | apply Kd.R_alloc | apply Kd.R_drewN | apply Kd.R_drew)); exact HO_3.out) hb); have n1_ := am (blk_below (g := gb254) (o := .cells #[.bool a0_0, .slice (some ad258) l0_1.length c0_1, .slice A0_2 l0_2.length c0_2, .slice A0_3 l0_3.length c0_3, .bool a0_4, .bool a0_5, .int .i64 a0_6, .bool a0_7] 24 (0, 0)) (by (with_reducible repeat (first | refine kdn ?_ _ | refine kdr ?_ | refine kal ?_ _)); exact BK254.out) hb); have n2_ := am (below_step (by repeat (first | (with_reducible first | exact HB.out | apply bal | apply bdn | apply bd1 | refine bst ?_ GE254.out) | exact HB.out)) hb); clear HO_3; clear BK254; clear HB; have HO_3 := n0_; have BK254 := n1_; have HB := n2_; clear n0_ n1_ n2_; (try clear hb); (try clear hb2); (try clear hk); (try clear hi); have hcz37_0 : w36.cell? ⟨gb254, 0, none⟩ = some (.bool a0_0) := (bcl BK254.out 0).trans rfl; have hcz37_1 : w36.cell? ⟨gb254, 1, none⟩ = some (.slice (some ad258) l0_1.length c0_1) := (bcl BK254.out 1).trans rfl; have hcz37_2 : w36.cell? ⟨gb254, 2, none⟩ = some (.slice A0_2 l0_2.length c0_2) := (bcl BK254.out 2).trans rfl; have hcz37_3 : w36.cell? ⟨gb254, 3, none⟩ = some (.slice A0_3 l0_3.length c0_3) := (bcl BK254.out 3).trans rfl; have hcz37_4 : w36.cell? ⟨gb254, 4, none⟩ = some (.bool a0_4) := (bcl BK254.out 4).trans rfl; have hcz37_5 : w36.cell? ⟨gb254, 5, none⟩ = some (.bool a0_5) := (bcl BK254.out 5).trans rfl; have hcz37_6 : w36.cell? ⟨gb254, 6, none⟩ = some (.int .i64 a0_6) := (bcl BK254.out 6).trans rfl; have hcz37_7 : w36.cell? ⟨gb254, 7, none⟩ = some (.bool a0_7) := (bcl BK254.out 7).trans rfl; have hfz37_0 := bfz BK254.out 0; have hfz37_1 := bfz BK254.out 1; have hfz37_2 := bfz BK254.out 2; have hfz37_3 := bfz BK254.out 3; have hfz37_4 := bfz BK254.out 4; have hfz37_5 := bfz BK254.out 5; have hfz37_6 := bfz BK254.out 6; have hfz37_7 := bfz BK254.out 7) | ((with_reducible refine gate_callee (f := 36) rfl ?_); refine goesL_ (some 34) rfl rfl Tryd.func36 (by kernel_rfl) rfl #[.slice A0_3 l0_3.length c0_3, .int .i64 ((rd_T42 l0_1 0).f0)] rfl (by (try simp only [List.map_toArray, List.map_cons, List.map_nil]); first | done | rfl | (simp only [List.length_drop, List.length_take]; rfl)) ?_; (with_reducible refine (r02_In.calls kj5 _ _ l0_3 ((rd_T42 l0_1 0).f0) false _ ?side1 ?side2 A23.out).mono ?_); (case side1 => repeat (first | exact (Kd.C_below HR0_3.out HB.out) | (with_reducible refine Kd.C_alloc ?_ _) | (with_reducible refine Kd.C_drewN ?_ _) | (with_reducible refine Kd.C_drew ?_))); (case side2 => exact HC0_3.out); rintro e w38 ⟨rfl, hb⟩; refine ⟨_, rfl, ?_⟩; have n0_ := am (Kd.R_below (by (with_reducible repeat (first | apply Kd.R_alloc | apply Kd.R_drewN | apply Kd.R_drew)); exact HO_3.out) hb); have n1_ := am (blk_below (g := gb254) (o := .cells #[.bool a0_0, .slice (some ad258) l0_1.length c0_1, .slice A0_2 l0_2.length c0_2, .slice A0_3 l0_3.length c0_3, .bool a0_4, .bool a0_5, .int .i64 a0_6, .bool a0_7] 24 (0, 0)) (by (with_reducible repeat (first | refine kdn ?_ _ | refine kdr ?_ | refine kal ?_ _)); exact BK254.out) hb); have n2_ := am (below_step (by repeat (first | (with_reducible first | exact HB.out | apply bal | apply bdn | apply bd1 | refine bst ?_ GE254.out) | exact HB.out)) hb); clear HO_3; clear BK254; clear HB; have HO_3 := n0_; have BK254 := n1_; have HB := n2_; clear n0_ n1_ n2_; (try clear hb); (try clear hb2); (try clear hk); (try clear hi); obtain ⟨Ao39, co39, eo39⟩ := Kd.R_slice HO_3.out; subst eo39))
         go_ret
         exact ⟨by first | rfl | (simp [errW_none, errW_some] <;> rfl) | (simp [*, errW_none, errW_some] <;> rfl), by repeat (first | (with_reducible first | exact HB.out | apply bal | apply bdn | apply bd1 | refine bst ?_ GE254.out) | exact HB.out)⟩
     ·rw [if_neg c18] at H
      exact absurd H (by simp)

/-! ### r02_Of: function 37 -/
def r02_Of.f (k : Nat) (l0 : List (S42)) : Option ((List (S42))) := (r02_of.f k l0 ([] : List (S42)) 1).bind fun t265 => (some t265)
theorem r02_Of.mono : ∀ a0 k, LeO (r02_Of.f k a0) (r02_Of.f (k + 1) a0) := by
 intro a0 k
 unfold r02_Of.f
 repeat' first
   | (with_reducible exact r02_of.mono _ _ _ _)
   | (with_reducible exact LeO.refl _)
   | (with_reducible exact LeO.none _)
   | (with_reducible refine LeO.ite ?_ ?_)
   | (with_reducible refine LeO.bind ?_ (fun _ => ?_))
   | exact r02_of.mono _ _ _ _
   | exact LeO.none _
   | refine LeO.ite ?_ ?_
   | refine LeO.bind ?_ (fun _ => ?_)
set_option maxHeartbeats 8000000 in
set_option maxRecDepth 100000 in
theorem r02_Of.calls (k : Nat) (A0 : Option Addr) (c0 : Nat) (l0 : List (S42)) (r : List (S42)) (w : World) (hr0 : Kd.C k42 w A0 l0.length l0) (hc0 : l0.length ≤ c0) (h : r02_Of.f k l0 = some r) :
  Calls Tryd.prog 37 #[.slice A0 l0.length c0] w fun e w' => ∃ v0_ : Value, e = .returned (v0_) ∧ Kd.R k42 42 w' w.heap.size (fun _ => True) v0_ r ∧ Below w.heap.size w w' := by
 have HR0 := am hr0
 have HC0 := am hc0
 clear hr0 hc0
 have HB := am (Below.refl w.heap.size w)
 have H : ((r02_of.f k l0 ([] : List (S42)) 1).bind fun t265 => (some t265)) = some r := h
 clear h
 replace H := Option.bind_eq_some_iff.mp H
 obtain ⟨t265, A20, H⟩ := H
 replace H : (some t265) = some r := H
 have A2 := am A20
 clear A20
 obtain rfl := Option.some.inj H
 go_enter Tryd.func37, Tryd.ntmps37
 go_wp2_with (first | ((with_reducible refine gate_callee (f := 52) rfl ?_); refine goesL_ (some 4) rfl rfl Tryd.func52 (by kernel_rfl) rfl #[.slice A0 l0.length c0, .slice none 0 0, .int .i64 1] rfl (by (try simp only [List.map_toArray, List.map_cons, List.map_nil]); first | done | rfl | (simp only [List.length_drop, List.length_take]; rfl)) ?_; (refine (r02_of.calls k _ _ l0 _ _ ([] : List (S42)) 1 t265 _ ?side1 ?side2 ?side3 ?side4 A2.out).mono ?_); (case side1 => repeat (first | exact HR0.out | (with_reducible refine Kd.C_alloc ?_ _) | (with_reducible refine Kd.C_drewN ?_ _) | (with_reducible refine Kd.C_drew ?_))); (case side2 => exact HC0.out); (case side3 => exact Kd.C_nil _ _); (case side4 => exact Nat.le_refl _); rintro e w3 ⟨v266, rfl, ho0, hb⟩; refine ⟨_, rfl, ?_⟩; have n0_ := am (Kd.R_lower ho0 (below_size (by repeat (first | (with_reducible first | exact HB.out | apply bal | apply bdn | apply bd1) | exact HB.out)))); have n1_ := am (below_step (by repeat (first | (with_reducible first | exact HB.out | apply bal | apply bdn | apply bd1) | exact HB.out)) hb); clear HB; have HO267 := n0_; have HB := n1_; clear n0_ n1_; (try clear hb); (try clear hb2); (try clear hk); (try clear hi); (try clear ho0)))
 go_ret
 exact ⟨_, by first | rfl | (simp [errW_none, errW_some] <;> rfl) | (simp [*, errW_none, errW_some] <;> rfl), by (with_reducible repeat (first | apply Kd.R_alloc | apply Kd.R_drewN | apply Kd.R_drew)); exact HO267.out, by repeat (first | (with_reducible first | exact HB.out | apply bal | apply bdn | apply bd1) | exact HB.out)⟩

/-! ### r37_Of: function 16 -/
def r37_Of.f (k : Nat) (a0_0 : Bool) (l0_1 : List (S42)) (l0_2 : List (S42)) (l0_3 : List (S42)) (a0_4 : Bool) (a0_5 : Bool) (a0_6 : Int) (a0_7 : Bool) : Option (Bool × (List (S42)) × (List (S42)) × (List (S42)) × Bool × Bool × Int × Bool) := (r02_Of.f k l0_1).bind fun t270 => ((r02_Of.f k l0_2).bind fun t273 => ((r02_Of.f k l0_3).bind fun t276 => (some (a0_0, t270, t273, t276, a0_4, a0_5, a0_6, a0_7))))
theorem r37_Of.mono : ∀ a0 a1 a2 a3 a4 a5 a6 a7 k, LeO (r37_Of.f k a0 a1 a2 a3 a4 a5 a6 a7) (r37_Of.f (k + 1) a0 a1 a2 a3 a4 a5 a6 a7) := by
 intro a0 a1 a2 a3 a4 a5 a6 a7 k
 unfold r37_Of.f
 repeat' first
   | (with_reducible exact r02_Of.mono _ _)
   | (with_reducible exact LeO.refl _)
   | (with_reducible exact LeO.none _)
   | (with_reducible refine LeO.ite ?_ ?_)
   | (with_reducible refine LeO.bind ?_ (fun _ => ?_))
   | exact r02_Of.mono _ _
   | exact LeO.none _
   | refine LeO.ite ?_ ?_
   | refine LeO.bind ?_ (fun _ => ?_)
set_option maxHeartbeats 8000000 in
set_option maxRecDepth 100000 in
theorem r37_Of.calls (k : Nat) (a0_0 : Bool) (A0_1 : Option Addr) (c0_1 : Nat) (l0_1 : List (S42)) (A0_2 : Option Addr) (c0_2 : Nat) (l0_2 : List (S42)) (A0_3 : Option Addr) (c0_3 : Nat) (l0_3 : List (S42)) (a0_4 : Bool) (a0_5 : Bool) (a0_6 : Int) (a0_7 : Bool) (r1 : Bool) (r2 : List (S42)) (r3 : List (S42)) (r4 : List (S42)) (r5 : Bool) (r6 : Bool) (r7 : Int) (r8 : Bool) (w : World) (hr0_1 : Kd.C k42 w A0_1 l0_1.length l0_1) (hc0_1 : l0_1.length ≤ c0_1) (hr0_2 : Kd.C k42 w A0_2 l0_2.length l0_2) (hc0_2 : l0_2.length ≤ c0_2) (hr0_3 : Kd.C k42 w A0_3 l0_3.length l0_3) (hc0_3 : l0_3.length ≤ c0_3) (h : r37_Of.f k a0_0 l0_1 l0_2 l0_3 a0_4 a0_5 a0_6 a0_7 = some (r1, r2, r3, r4, r5, r6, r7, r8)) :
  Calls Tryd.prog 16 #[.agg #[.bool a0_0, .slice A0_1 l0_1.length c0_1, .slice A0_2 l0_2.length c0_2, .slice A0_3 l0_3.length c0_3, .bool a0_4, .bool a0_5, .int .i64 a0_6, .bool a0_7]] w fun e w' => ∃ v1_ v2_ v3_ : Value, e = .returned (.agg #[.bool r1, v1_, v2_, v3_, .bool r5, .bool r6, .int .i64 r7, .bool r8]) ∧ Kd.R k42 42 w' w.heap.size (fun k_ => some k_ ≠ (v2_ : Value).ownBlock ∧ some k_ ≠ (v3_ : Value).ownBlock) v1_ r2 ∧ Kd.R k42 42 w' w.heap.size (fun k_ => some k_ ≠ (v1_ : Value).ownBlock ∧ some k_ ≠ (v3_ : Value).ownBlock) v2_ r3 ∧ Kd.R k42 42 w' w.heap.size (fun k_ => some k_ ≠ (v1_ : Value).ownBlock ∧ some k_ ≠ (v2_ : Value).ownBlock) v3_ r4 ∧ Below w.heap.size w w' := by
 have hu24 := Tryd.underlying24
 have HR0_1 := am hr0_1
 have HC0_1 := am hc0_1
 clear hr0_1 hc0_1
 have HR0_2 := am hr0_2
 have HC0_2 := am hc0_2
 clear hr0_2 hc0_2
 have HR0_3 := am hr0_3
 have HC0_3 := am hc0_3
 clear hr0_3 hc0_3
 have HB := am (Below.refl w.heap.size w)
 have H : ((r02_Of.f k l0_1).bind fun t270 => ((r02_Of.f k l0_2).bind fun t273 => ((r02_Of.f k l0_3).bind fun t276 => (some (a0_0, t270, t273, t276, a0_4, a0_5, a0_6, a0_7))))) = some (r1, r2, r3, r4, r5, r6, r7, r8) := h
 clear h
 replace H := Option.bind_eq_some_iff.mp H
 obtain ⟨t270, A20, H⟩ := H
 replace H : ((r02_Of.f k l0_2).bind fun t273 => ((r02_Of.f k l0_3).bind fun t276 => (some (a0_0, t270, t273, t276, a0_4, a0_5, a0_6, a0_7)))) = some (r1, r2, r3, r4, r5, r6, r7, r8) := H
 have A2 := am A20
 clear A20
 replace H := Option.bind_eq_some_iff.mp H
 obtain ⟨t273, A30, H⟩ := H
 replace H : ((r02_Of.f k l0_3).bind fun t276 => (some (a0_0, t270, t273, t276, a0_4, a0_5, a0_6, a0_7))) = some (r1, r2, r3, r4, r5, r6, r7, r8) := H
 have A3 := am A30
 clear A30
 replace H := Option.bind_eq_some_iff.mp H
 obtain ⟨t276, A40, H⟩ := H
 replace H : (some (a0_0, t270, t273, t276, a0_4, a0_5, a0_6, a0_7)) = some (r1, r2, r3, r4, r5, r6, r7, r8) := H
 have A4 := am A40
 clear A40
 simp only [Option.some.injEq, Prod.mk.injEq] at H
 obtain ⟨rfl, rfl, rfl, rfl, rfl, rfl, rfl, rfl⟩ := H
 go_enter Tryd.func16, Tryd.ntmps16
 go_wp2_with (first | ((with_reducible refine gate_dst (N := 1) rfl ?_); refine box_event ?hg (N := 1) ?hd (cs := #[.bool a0_0, .slice A0_1 l0_1.length c0_1, .slice A0_2 l0_2.length c0_2, .slice A0_3 l0_3.length c0_3, .bool a0_4, .bool a0_5, .int .i64 a0_6, .bool a0_7]) (t := 24) ?hr ?_; (case hd => rfl); (case hg => rfl); (case hr => first | (go_simp; done) | (go_simp; rfl)); intro gb268 hg w5 hbox hb; have n0_ := am (below_step (by repeat (first | (with_reducible first | exact HB.out | apply bal | apply bdn | apply bd1) | exact HB.out)) hb); have n1_ := am (hbox); have n2_ := am ((by rw [hg]; exact (below_size (by repeat (first | (with_reducible first | exact HB.out | apply bal | apply bdn | apply bd1) | exact HB.out))) : w.heap.size ≤ gb268)); have n3_ := am ((by rw [hg]; exact (below_size (by repeat (first | (with_reducible first | exact HB.out | apply bal | apply bdn | apply bd1) | exact HB.out))) : w.heap.size ≤ gb268)); clear HB; have HB := n0_; have BK268 := n1_; have GW268 := n2_; have GE268 := n3_; clear n0_ n1_ n2_ n3_; clear hb hbox hg) | ((with_reducible refine gate_dst (N := 2) rfl ?_); refine box_event ?hg (N := 2) ?hd (cs := #[.bool false, .slice none 0 0, .slice none 0 0, .slice none 0 0, .bool false, .bool false, .int .i64 0, .bool false]) (t := 24) ?hr ?_; (case hd => rfl); (case hg => rfl); (case hr => first | (go_simp; done) | (go_simp; rfl)); intro gb269 hg w6 hbox hb; have n0_ := am (blk_below (g := gb268) (o := .cells #[.bool a0_0, .slice A0_1 l0_1.length c0_1, .slice A0_2 l0_2.length c0_2, .slice A0_3 l0_3.length c0_3, .bool a0_4, .bool a0_5, .int .i64 a0_6, .bool a0_7] 24 (0, 0)) (by (with_reducible repeat (first | refine kdn ?_ _ | refine kdr ?_ | refine kal ?_ _)); exact BK268.out) hb); have n1_ := am (below_step (by repeat (first | (with_reducible first | exact HB.out | apply bal | apply bdn | apply bd1 | refine bst ?_ GE268.out) | exact HB.out)) hb); have n2_ := am (hbox); have n3_ := am ((by rw [hg]; exact (below_size (by repeat (first | (with_reducible first | exact HB.out | apply bal | apply bdn | apply bd1 | refine bst ?_ GE268.out) | exact HB.out))) : w.heap.size ≤ gb269)); have n4_ := am ((by rw [hg]; exact (below_size (by repeat (first | (with_reducible first | exact HB.out | apply bal | apply bdn | apply bd1 | refine bst ?_ GE268.out) | exact HB.out))) : w.heap.size ≤ gb269)); have n5_ := am ((by rw [hg]; exact Nat.ne_of_lt (blk_lt (g := gb268) (o := .cells #[.bool a0_0, .slice A0_1 l0_1.length c0_1, .slice A0_2 l0_2.length c0_2, .slice A0_3 l0_3.length c0_3, .bool a0_4, .bool a0_5, .int .i64 a0_6, .bool a0_7] 24 (0, 0)) (by (with_reducible repeat (first | refine kdn ?_ _ | refine kdr ?_ | refine kal ?_ _)); exact BK268.out)) : gb268 ≠ gb269)); have n6_ := am ((by rw [hg]; exact Nat.ne_of_gt (blk_lt (g := gb268) (o := .cells #[.bool a0_0, .slice A0_1 l0_1.length c0_1, .slice A0_2 l0_2.length c0_2, .slice A0_3 l0_3.length c0_3, .bool a0_4, .bool a0_5, .int .i64 a0_6, .bool a0_7] 24 (0, 0)) (by (with_reducible repeat (first | refine kdn ?_ _ | refine kdr ?_ | refine kal ?_ _)); exact BK268.out)) : gb269 ≠ gb268)); clear BK268; clear HB; have BK268 := n0_; have HB := n1_; have BK269 := n2_; have GW269 := n3_; have GE269 := n4_; have NB268_269 := n5_; have NB269_268 := n6_; clear n0_ n1_ n2_ n3_ n4_ n5_ n6_; clear hb hbox hg; have hnb7 := NB268_269.out; have hnc7 := NB269_268.out; have hcz8_0 : w6.cell? ⟨gb268, 0, none⟩ = some (.bool a0_0) := (bcl BK268.out 0).trans rfl; have hcz8_1 : w6.cell? ⟨gb268, 1, none⟩ = some (.slice A0_1 l0_1.length c0_1) := (bcl BK268.out 1).trans rfl; have hcz8_2 : w6.cell? ⟨gb268, 2, none⟩ = some (.slice A0_2 l0_2.length c0_2) := (bcl BK268.out 2).trans rfl; have hcz8_3 : w6.cell? ⟨gb268, 3, none⟩ = some (.slice A0_3 l0_3.length c0_3) := (bcl BK268.out 3).trans rfl; have hcz8_4 : w6.cell? ⟨gb268, 4, none⟩ = some (.bool a0_4) := (bcl BK268.out 4).trans rfl; have hcz8_5 : w6.cell? ⟨gb268, 5, none⟩ = some (.bool a0_5) := (bcl BK268.out 5).trans rfl; have hcz8_6 : w6.cell? ⟨gb268, 6, none⟩ = some (.int .i64 a0_6) := (bcl BK268.out 6).trans rfl; have hcz8_7 : w6.cell? ⟨gb268, 7, none⟩ = some (.bool a0_7) := (bcl BK268.out 7).trans rfl; have hfz8_0 := bfz BK268.out 0; have hfz8_1 := bfz BK268.out 1; have hfz8_2 := bfz BK268.out 2; have hfz8_3 := bfz BK268.out 3; have hfz8_4 := bfz BK268.out 4; have hfz8_5 := bfz BK268.out 5; have hfz8_6 := bfz BK268.out 6; have hfz8_7 := bfz BK268.out 7) | ((with_reducible refine gate_callee (f := 37) rfl ?_); refine goesL_ (some 5) rfl rfl Tryd.func37 (by kernel_rfl) rfl #[.slice A0_1 l0_1.length c0_1] rfl (by (try simp only [List.map_toArray, List.map_cons, List.map_nil]); first | done | rfl | (simp only [List.length_drop, List.length_take]; rfl)) ?_; (with_reducible refine (r02_Of.calls k _ _ l0_1 t270 _ ?side1 ?side2 A2.out).mono ?_); (case side1 => repeat (first | exact (Kd.C_below HR0_1.out HB.out) | (with_reducible refine Kd.C_alloc ?_ _) | (with_reducible refine Kd.C_drewN ?_ _) | (with_reducible refine Kd.C_drew ?_))); (case side2 => exact HC0_1.out); rintro e w9 ⟨v271, rfl, ho0, hb⟩; refine ⟨_, rfl, ?_⟩; have n0_ := am (Kd.R_lower ho0 (below_size (by repeat (first | (with_reducible first | exact HB.out | apply bal | apply bdn | apply bd1 | refine bst ?_ GE268.out | refine bst ?_ GE269.out) | exact HB.out)))); have n1_ := am (blk_below (g := gb268) (o := .cells #[.bool a0_0, .slice A0_1 l0_1.length c0_1, .slice A0_2 l0_2.length c0_2, .slice A0_3 l0_3.length c0_3, .bool a0_4, .bool a0_5, .int .i64 a0_6, .bool a0_7] 24 (0, 0)) (by (with_reducible repeat (first | refine kdn ?_ _ | refine kdr ?_ | refine kal ?_ _)); exact BK268.out) hb); have n2_ := am (blk_below (g := gb269) (o := .cells #[.bool false, .slice none 0 0, .slice none 0 0, .slice none 0 0, .bool false, .bool false, .int .i64 0, .bool false] 24 (0, 0)) (by (with_reducible repeat (first | refine kdn ?_ _ | refine kdr ?_ | refine kal ?_ _)); exact BK269.out) hb); have n3_ := am (below_step (by repeat (first | (with_reducible first | exact HB.out | apply bal | apply bdn | apply bd1 | refine bst ?_ GE268.out | refine bst ?_ GE269.out) | exact HB.out)) hb); clear BK268; clear BK269; clear HB; have HO272 := n0_; have BK268 := n1_; have BK269 := n2_; have HB := n3_; clear n0_ n1_ n2_ n3_; (try clear hb); (try clear hb2); (try clear hk); (try clear hi); (try clear ho0); obtain ⟨Ao10, co10, eo10⟩ := Kd.R_slice HO272.out; subst eo10; have hcz11_0 : w9.cell? ⟨gb268, 0, none⟩ = some (.bool a0_0) := (bcl BK268.out 0).trans rfl; have hcz11_1 : w9.cell? ⟨gb268, 1, none⟩ = some (.slice A0_1 l0_1.length c0_1) := (bcl BK268.out 1).trans rfl; have hcz11_2 : w9.cell? ⟨gb268, 2, none⟩ = some (.slice A0_2 l0_2.length c0_2) := (bcl BK268.out 2).trans rfl; have hcz11_3 : w9.cell? ⟨gb268, 3, none⟩ = some (.slice A0_3 l0_3.length c0_3) := (bcl BK268.out 3).trans rfl; have hcz11_4 : w9.cell? ⟨gb268, 4, none⟩ = some (.bool a0_4) := (bcl BK268.out 4).trans rfl; have hcz11_5 : w9.cell? ⟨gb268, 5, none⟩ = some (.bool a0_5) := (bcl BK268.out 5).trans rfl; have hcz11_6 : w9.cell? ⟨gb268, 6, none⟩ = some (.int .i64 a0_6) := (bcl BK268.out 6).trans rfl; have hcz11_7 : w9.cell? ⟨gb268, 7, none⟩ = some (.bool a0_7) := (bcl BK268.out 7).trans rfl; have hfz11_0 := bfz BK268.out 0; have hfz11_1 := bfz BK268.out 1; have hfz11_2 := bfz BK268.out 2; have hfz11_3 := bfz BK268.out 3; have hfz11_4 := bfz BK268.out 4; have hfz11_5 := bfz BK268.out 5; have hfz11_6 := bfz BK268.out 6; have hfz11_7 := bfz BK268.out 7) | ((with_reducible refine gate_callee (f := 37) rfl ?_); refine goesL_ (some 9) rfl rfl Tryd.func37 (by kernel_rfl) rfl #[.slice A0_2 l0_2.length c0_2] rfl (by (try simp only [List.map_toArray, List.map_cons, List.map_nil]); first | done | rfl | (simp only [List.length_drop, List.length_take]; rfl)) ?_; (with_reducible refine (r02_Of.calls k _ _ l0_2 t273 _ ?side1 ?side2 A3.out).mono ?_); (case side1 => exact Kd.C_below HR0_2.out (by repeat (first | (with_reducible first | exact HB.out | apply bal | apply bdn | apply bd1 | refine bst ?_ GE268.out | refine bst ?_ GE269.out) | exact HB.out))); (case side2 => exact HC0_2.out); rintro e w12 ⟨v274, rfl, ho0, hb⟩; refine ⟨_, rfl, ?_⟩; have n0_ := am (Kd.R_elder' (by (with_reducible repeat (first | apply Kd.R_alloc | apply Kd.R_drewN | apply Kd.R_drew)); exact (Kd.R_mono (Kd.R_far (p := ⟨gb268, 1, none⟩) (Kd.R_types HO272.out BK268.out (by decide)) (fun _ hk => hk.2) (.slice Ao10 t270.length co10)) (fun _ h_ => h_.1))) (Kd.R_base ho0) hb); have n1_ := am (Kd.R_lower (Kd.R_new' ho0 (Kd.R_lt (by (with_reducible repeat (first | apply Kd.R_alloc | apply Kd.R_drewN | apply Kd.R_drew)); exact (Kd.R_mono (Kd.R_far (p := ⟨gb268, 1, none⟩) (Kd.R_types HO272.out BK268.out (by decide)) (fun _ hk => hk.2) (.slice Ao10 t270.length co10)) (fun _ h_ => h_.1))))) (below_size (by repeat (first | (with_reducible first | exact HB.out | apply bal | apply bdn | apply bd1 | refine bst ?_ GE268.out | refine bst ?_ GE269.out) | exact HB.out)))); have n2_ := am (blk_below (g := gb268) (o := .cells #[.bool a0_0, .slice Ao10 t270.length co10, .slice A0_2 l0_2.length c0_2, .slice A0_3 l0_3.length c0_3, .bool a0_4, .bool a0_5, .int .i64 a0_6, .bool a0_7] 24 (0, 0)) (by (with_reducible repeat (first | refine kdn ?_ _ | refine kdr ?_ | refine kal ?_ _)); refine blk_put (cs := #[.bool a0_0, .slice A0_1 l0_1.length c0_1, .slice A0_2 l0_2.length c0_2, .slice A0_3 l0_3.length c0_3, .bool a0_4, .bool a0_5, .int .i64 a0_6, .bool a0_7]) ?_ 1 _ rfl; (with_reducible repeat (first | refine kdn ?_ _ | refine kdr ?_ | refine kal ?_ _)); exact BK268.out) hb); have n3_ := am (blk_below (g := gb269) (o := .cells #[.bool false, .slice none 0 0, .slice none 0 0, .slice none 0 0, .bool false, .bool false, .int .i64 0, .bool false] 24 (0, 0)) (by (with_reducible repeat (first | refine kdn ?_ _ | refine kdr ?_ | refine kal ?_ _)); refine blk_far ?_ NB269_268.out _; (with_reducible repeat (first | refine kdn ?_ _ | refine kdr ?_ | refine kal ?_ _)); exact BK269.out) hb); have n4_ := am (below_step (by repeat (first | (with_reducible first | exact HB.out | apply bal | apply bdn | apply bd1 | refine bst ?_ GE268.out | refine bst ?_ GE269.out) | exact HB.out)) hb); clear HO272; clear BK268; clear BK269; clear HB; have HO272 := n0_; have HO275 := n1_; have BK268 := n2_; have BK269 := n3_; have HB := n4_; clear n0_ n1_ n2_ n3_ n4_; (try clear hb); (try clear hb2); (try clear hk); (try clear hi); (try clear ho0); obtain ⟨Ao13, co13, eo13⟩ := Kd.R_slice HO275.out; subst eo13; have hcz14_0 : w12.cell? ⟨gb268, 0, none⟩ = some (.bool a0_0) := (bcl BK268.out 0).trans rfl; have hcz14_1 : w12.cell? ⟨gb268, 1, none⟩ = some (.slice Ao10 t270.length co10) := (bcl BK268.out 1).trans rfl; have hcz14_2 : w12.cell? ⟨gb268, 2, none⟩ = some (.slice A0_2 l0_2.length c0_2) := (bcl BK268.out 2).trans rfl; have hcz14_3 : w12.cell? ⟨gb268, 3, none⟩ = some (.slice A0_3 l0_3.length c0_3) := (bcl BK268.out 3).trans rfl; have hcz14_4 : w12.cell? ⟨gb268, 4, none⟩ = some (.bool a0_4) := (bcl BK268.out 4).trans rfl; have hcz14_5 : w12.cell? ⟨gb268, 5, none⟩ = some (.bool a0_5) := (bcl BK268.out 5).trans rfl; have hcz14_6 : w12.cell? ⟨gb268, 6, none⟩ = some (.int .i64 a0_6) := (bcl BK268.out 6).trans rfl; have hcz14_7 : w12.cell? ⟨gb268, 7, none⟩ = some (.bool a0_7) := (bcl BK268.out 7).trans rfl; have hfz14_0 := bfz BK268.out 0; have hfz14_1 := bfz BK268.out 1; have hfz14_2 := bfz BK268.out 2; have hfz14_3 := bfz BK268.out 3; have hfz14_4 := bfz BK268.out 4; have hfz14_5 := bfz BK268.out 5; have hfz14_6 := bfz BK268.out 6; have hfz14_7 := bfz BK268.out 7) | ((with_reducible refine gate_callee (f := 37) rfl ?_); refine goesL_ (some 13) rfl rfl Tryd.func37 (by kernel_rfl) rfl #[.slice A0_3 l0_3.length c0_3] rfl (by (try simp only [List.map_toArray, List.map_cons, List.map_nil]); first | done | rfl | (simp only [List.length_drop, List.length_take]; rfl)) ?_; (with_reducible refine (r02_Of.calls k _ _ l0_3 t276 _ ?side1 ?side2 A4.out).mono ?_); (case side1 => exact Kd.C_below HR0_3.out (by repeat (first | (with_reducible first | exact HB.out | apply bal | apply bdn | apply bd1 | refine bst ?_ GE268.out | refine bst ?_ GE269.out) | exact HB.out))); (case side2 => exact HC0_3.out); rintro e w15 ⟨v277, rfl, ho0, hb⟩; refine ⟨_, rfl, ?_⟩; have n0_ := am (Kd.R_elder' (by (with_reducible repeat (first | apply Kd.R_alloc | apply Kd.R_drewN | apply Kd.R_drew)); exact (Kd.R_mono (Kd.R_far (p := ⟨gb268, 2, none⟩) (Kd.R_types HO272.out BK268.out (by decide)) (fun _ hk => hk.2) (.slice Ao13 t273.length co13)) (fun _ h_ => h_.1))) (Kd.R_base ho0) hb); have n1_ := am (Kd.R_elder' (by (with_reducible repeat (first | apply Kd.R_alloc | apply Kd.R_drewN | apply Kd.R_drew)); exact (Kd.R_mono (Kd.R_far (p := ⟨gb268, 2, none⟩) (Kd.R_types HO275.out BK268.out (by decide)) (fun _ hk => hk.2) (.slice Ao13 t273.length co13)) (fun _ h_ => h_.1))) (Kd.R_base ho0) hb); have n2_ := am (Kd.R_lower (Kd.R_new' (Kd.R_new' ho0 (Kd.R_lt (by (with_reducible repeat (first | apply Kd.R_alloc | apply Kd.R_drewN | apply Kd.R_drew)); exact (Kd.R_mono (Kd.R_far (p := ⟨gb268, 2, none⟩) (Kd.R_types HO272.out BK268.out (by decide)) (fun _ hk => hk.2) (.slice Ao13 t273.length co13)) (fun _ h_ => h_.1))))) (Kd.R_lt (by (with_reducible repeat (first | apply Kd.R_alloc | apply Kd.R_drewN | apply Kd.R_drew)); exact (Kd.R_mono (Kd.R_far (p := ⟨gb268, 2, none⟩) (Kd.R_types HO275.out BK268.out (by decide)) (fun _ hk => hk.2) (.slice Ao13 t273.length co13)) (fun _ h_ => h_.1))))) (below_size (by repeat (first | (with_reducible first | exact HB.out | apply bal | apply bdn | apply bd1 | refine bst ?_ GE268.out | refine bst ?_ GE269.out) | exact HB.out)))); have n3_ := am (blk_below (g := gb268) (o := .cells #[.bool a0_0, .slice Ao10 t270.length co10, .slice Ao13 t273.length co13, .slice A0_3 l0_3.length c0_3, .bool a0_4, .bool a0_5, .int .i64 a0_6, .bool a0_7] 24 (0, 0)) (by (with_reducible repeat (first | refine kdn ?_ _ | refine kdr ?_ | refine kal ?_ _)); refine blk_put (cs := #[.bool a0_0, .slice Ao10 t270.length co10, .slice A0_2 l0_2.length c0_2, .slice A0_3 l0_3.length c0_3, .bool a0_4, .bool a0_5, .int .i64 a0_6, .bool a0_7]) ?_ 2 _ rfl; (with_reducible repeat (first | refine kdn ?_ _ | refine kdr ?_ | refine kal ?_ _)); exact BK268.out) hb); have n4_ := am (blk_below (g := gb269) (o := .cells #[.bool false, .slice none 0 0, .slice none 0 0, .slice none 0 0, .bool false, .bool false, .int .i64 0, .bool false] 24 (0, 0)) (by (with_reducible repeat (first | refine kdn ?_ _ | refine kdr ?_ | refine kal ?_ _)); refine blk_far ?_ NB269_268.out _; (with_reducible repeat (first | refine kdn ?_ _ | refine kdr ?_ | refine kal ?_ _)); exact BK269.out) hb); have n5_ := am (below_step (by repeat (first | (with_reducible first | exact HB.out | apply bal | apply bdn | apply bd1 | refine bst ?_ GE268.out | refine bst ?_ GE269.out) | exact HB.out)) hb); clear HO272; clear HO275; clear BK268; clear BK269; clear HB; have HO272 := n0_; have HO275 := n1_; have HO278 := n2_; have BK268 := n3_; have BK269 := n4_; have HB := n5_; clear n0_ n1_ n2_ n3_ n4_ n5_; (try clear hb); (try clear hb2); (try clear hk); (try clear hi); (try clear ho0); obtain ⟨Ao16, co16, eo16⟩ := Kd.R_slice HO278.out; subst eo16; have hcz17_0 : w15.cell? ⟨gb268, 0, none⟩ = some (.bool a0_0) := (bcl BK268.out 0).trans rfl; have hcz17_1 : w15.cell? ⟨gb268, 1, none⟩ = some (.slice Ao10 t270.length co10) := (bcl BK268.out 1).trans rfl; have hcz17_2 : w15.cell? ⟨gb268, 2, none⟩ = some (.slice Ao13 t273.length co13) := (bcl BK268.out 2).trans rfl; have hcz17_3 : w15.cell? ⟨gb268, 3, none⟩ = some (.slice A0_3 l0_3.length c0_3) := (bcl BK268.out 3).trans rfl; have hcz17_4 : w15.cell? ⟨gb268, 4, none⟩ = some (.bool a0_4) := (bcl BK268.out 4).trans rfl; have hcz17_5 : w15.cell? ⟨gb268, 5, none⟩ = some (.bool a0_5) := (bcl BK268.out 5).trans rfl; have hcz17_6 : w15.cell? ⟨gb268, 6, none⟩ = some (.int .i64 a0_6) := (bcl BK268.out 6).trans rfl; have hcz17_7 : w15.cell? ⟨gb268, 7, none⟩ = some (.bool a0_7) := (bcl BK268.out 7).trans rfl; have hfz17_0 := bfz BK268.out 0; have hfz17_1 := bfz BK268.out 1; have hfz17_2 := bfz BK268.out 2; have hfz17_3 := bfz BK268.out 3; have hfz17_4 := bfz BK268.out 4; have hfz17_5 := bfz BK268.out 5; have hfz17_6 := bfz BK268.out 6; have hfz17_7 := bfz BK268.out 7; have hcz18_0 : w15.cell? ⟨gb269, 0, none⟩ = some (.bool false) := (bcl BK269.out 0).trans rfl; have hcz18_1 : w15.cell? ⟨gb269, 1, none⟩ = some (.slice none 0 0) := (bcl BK269.out 1).trans rfl; have hcz18_2 : w15.cell? ⟨gb269, 2, none⟩ = some (.slice none 0 0) := (bcl BK269.out 2).trans rfl; have hcz18_3 : w15.cell? ⟨gb269, 3, none⟩ = some (.slice none 0 0) := (bcl BK269.out 3).trans rfl; have hcz18_4 : w15.cell? ⟨gb269, 4, none⟩ = some (.bool false) := (bcl BK269.out 4).trans rfl; have hcz18_5 : w15.cell? ⟨gb269, 5, none⟩ = some (.bool false) := (bcl BK269.out 5).trans rfl; have hcz18_6 : w15.cell? ⟨gb269, 6, none⟩ = some (.int .i64 0) := (bcl BK269.out 6).trans rfl; have hcz18_7 : w15.cell? ⟨gb269, 7, none⟩ = some (.bool false) := (bcl BK269.out 7).trans rfl; have hfz18_0 := bfz BK269.out 0; have hfz18_1 := bfz BK269.out 1; have hfz18_2 := bfz BK269.out 2; have hfz18_3 := bfz BK269.out 3; have hfz18_4 := bfz BK269.out 4; have hfz18_5 := bfz BK269.out 5; have hfz18_6 := bfz BK269.out 6; have hfz18_7 := bfz BK269.out 7))
 refine bodyPost_ret (results_cell_row rfl _ _ gb269 24 #[.bool a0_0, .slice Ao10 t270.length co10, .slice Ao13 t273.length co13, .slice Ao16 t276.length co16, .bool a0_4, .bool a0_5, .int .i64 a0_6, .bool a0_7] (0, 0) _ rfl (by (with_reducible repeat (first | refine kdn ?_ _ | refine kdr ?_ | refine kal ?_ _)); refine blk_put (cs := #[.bool a0_0, .slice Ao10 t270.length co10, .slice Ao13 t273.length co13, .slice Ao16 t276.length co16, .bool a0_4, .bool a0_5, .int .i64 a0_6, .bool false]) ?_ 7 _ rfl; (with_reducible repeat (first | refine kdn ?_ _ | refine kdr ?_ | refine kal ?_ _)); refine blk_put (cs := #[.bool a0_0, .slice Ao10 t270.length co10, .slice Ao13 t273.length co13, .slice Ao16 t276.length co16, .bool a0_4, .bool a0_5, .int .i64 0, .bool false]) ?_ 6 _ rfl; (with_reducible repeat (first | refine kdn ?_ _ | refine kdr ?_ | refine kal ?_ _)); refine blk_put (cs := #[.bool a0_0, .slice Ao10 t270.length co10, .slice Ao13 t273.length co13, .slice Ao16 t276.length co16, .bool a0_4, .bool false, .int .i64 0, .bool false]) ?_ 5 _ rfl; (with_reducible repeat (first | refine kdn ?_ _ | refine kdr ?_ | refine kal ?_ _)); refine blk_put (cs := #[.bool a0_0, .slice Ao10 t270.length co10, .slice Ao13 t273.length co13, .slice Ao16 t276.length co16, .bool false, .bool false, .int .i64 0, .bool false]) ?_ 4 _ rfl; (with_reducible repeat (first | refine kdn ?_ _ | refine kdr ?_ | refine kal ?_ _)); refine blk_put (cs := #[.bool a0_0, .slice Ao10 t270.length co10, .slice Ao13 t273.length co13, .slice none 0 0, .bool false, .bool false, .int .i64 0, .bool false]) ?_ 3 _ rfl; (with_reducible repeat (first | refine kdn ?_ _ | refine kdr ?_ | refine kal ?_ _)); refine blk_put (cs := #[.bool a0_0, .slice Ao10 t270.length co10, .slice none 0 0, .slice none 0 0, .bool false, .bool false, .int .i64 0, .bool false]) ?_ 2 _ rfl; (with_reducible repeat (first | refine kdn ?_ _ | refine kdr ?_ | refine kal ?_ _)); refine blk_put (cs := #[.bool a0_0, .slice none 0 0, .slice none 0 0, .slice none 0 0, .bool false, .bool false, .int .i64 0, .bool false]) ?_ 1 _ rfl; (with_reducible repeat (first | refine kdn ?_ _ | refine kdr ?_ | refine kal ?_ _)); refine blk_put (cs := #[.bool false, .slice none 0 0, .slice none 0 0, .slice none 0 0, .bool false, .bool false, .int .i64 0, .bool false]) ?_ 0 _ rfl; (with_reducible repeat (first | refine kdn ?_ _ | refine kdr ?_ | refine kal ?_ _)); refine blk_far ?_ NB269_268.out _; (with_reducible repeat (first | refine kdn ?_ _ | refine kdr ?_ | refine kal ?_ _)); exact BK269.out) Tryd.underlying24 rfl (by kernel_rfl)) rfl ?_
 exact ⟨_, _, _, by first | rfl | (simp [errW_none, errW_some] <;> rfl) | (simp [*, errW_none, errW_some] <;> rfl), by (with_reducible repeat (first | apply Kd.R_alloc | apply Kd.R_drewN | apply Kd.R_drew)); exact Kd.R_mono (Kd.R_far (p := ⟨gb269, 7, none⟩) (Kd.R_far (p := ⟨gb269, 6, none⟩) (Kd.R_far (p := ⟨gb269, 5, none⟩) (Kd.R_far (p := ⟨gb269, 4, none⟩) (Kd.R_far (p := ⟨gb269, 3, none⟩) (Kd.R_far (p := ⟨gb269, 2, none⟩) (Kd.R_far (p := ⟨gb269, 1, none⟩) (Kd.R_far (p := ⟨gb269, 0, none⟩) (Kd.R_far (p := ⟨gb268, 3, none⟩) (Kd.R_types (Kd.R_types HO272.out BK268.out (by decide)) BK269.out (by decide)) (fun _ hk => hk.1.2) (.slice Ao16 t276.length co16)) (fun _ hk => hk.2) (.bool a0_0)) (fun _ hk => hk.2) (.slice Ao10 t270.length co10)) (fun _ hk => hk.2) (.slice Ao13 t273.length co13)) (fun _ hk => hk.2) (.slice Ao16 t276.length co16)) (fun _ hk => hk.2) (.bool a0_4)) (fun _ hk => hk.2) (.bool a0_5)) (fun _ hk => hk.2) (.int .i64 a0_6)) (fun _ hk => hk.2) (.bool a0_7)) (fun _ hk => ⟨hk.1.1.1.2, hk.1.1.2⟩), by (with_reducible repeat (first | apply Kd.R_alloc | apply Kd.R_drewN | apply Kd.R_drew)); exact Kd.R_mono (Kd.R_far (p := ⟨gb269, 7, none⟩) (Kd.R_far (p := ⟨gb269, 6, none⟩) (Kd.R_far (p := ⟨gb269, 5, none⟩) (Kd.R_far (p := ⟨gb269, 4, none⟩) (Kd.R_far (p := ⟨gb269, 3, none⟩) (Kd.R_far (p := ⟨gb269, 2, none⟩) (Kd.R_far (p := ⟨gb269, 1, none⟩) (Kd.R_far (p := ⟨gb269, 0, none⟩) (Kd.R_far (p := ⟨gb268, 3, none⟩) (Kd.R_types (Kd.R_types HO275.out BK268.out (by decide)) BK269.out (by decide)) (fun _ hk => hk.1.2) (.slice Ao16 t276.length co16)) (fun _ hk => hk.2) (.bool a0_0)) (fun _ hk => hk.2) (.slice Ao10 t270.length co10)) (fun _ hk => hk.2) (.slice Ao13 t273.length co13)) (fun _ hk => hk.2) (.slice Ao16 t276.length co16)) (fun _ hk => hk.2) (.bool a0_4)) (fun _ hk => hk.2) (.bool a0_5)) (fun _ hk => hk.2) (.int .i64 a0_6)) (fun _ hk => hk.2) (.bool a0_7)) (fun _ hk => ⟨hk.1.1.1.2, hk.1.1.2⟩), by (with_reducible repeat (first | apply Kd.R_alloc | apply Kd.R_drewN | apply Kd.R_drew)); exact Kd.R_mono (Kd.R_far (p := ⟨gb269, 7, none⟩) (Kd.R_far (p := ⟨gb269, 6, none⟩) (Kd.R_far (p := ⟨gb269, 5, none⟩) (Kd.R_far (p := ⟨gb269, 4, none⟩) (Kd.R_far (p := ⟨gb269, 3, none⟩) (Kd.R_far (p := ⟨gb269, 2, none⟩) (Kd.R_far (p := ⟨gb269, 1, none⟩) (Kd.R_far (p := ⟨gb269, 0, none⟩) (Kd.R_far (p := ⟨gb268, 3, none⟩) (Kd.R_types (Kd.R_types HO278.out BK268.out (by decide)) BK269.out (by decide)) (fun _ hk => hk.1.2) (.slice Ao16 t276.length co16)) (fun _ hk => hk.2) (.bool a0_0)) (fun _ hk => hk.2) (.slice Ao10 t270.length co10)) (fun _ hk => hk.2) (.slice Ao13 t273.length co13)) (fun _ hk => hk.2) (.slice Ao16 t276.length co16)) (fun _ hk => hk.2) (.bool a0_4)) (fun _ hk => hk.2) (.bool a0_5)) (fun _ hk => hk.2) (.int .i64 a0_6)) (fun _ hk => hk.2) (.bool a0_7)) (fun _ hk => ⟨hk.1.1.1.2, hk.1.1.2⟩), by repeat (first | (with_reducible first | exact HB.out | apply bal | apply bdn | apply bd1 | refine bst ?_ GE268.out | refine bst ?_ GE269.out) | exact HB.out)⟩

end Go.Proofs.YtbgojgoejlhgeaaDoor.Pr
