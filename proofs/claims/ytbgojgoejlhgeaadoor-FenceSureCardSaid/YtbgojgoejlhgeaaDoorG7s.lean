-- PRINTED by print.py (a twelfth state) out of the translation, parted. Not trusted: Lean checks it.
import Derived.Test.YtbgojgoejlhgeaaDoorG7
namespace Go.Proofs.YtbgojgoejlhgeaaDoor.Pr
open Go.RowKit Go.Proofs.YtbgojgoejlhgeaaDoorW.PrintWords Go.Proofs.YtbgojgoejlhgeaaDoorW.PrintLast Go.Proofs.YtbgojgoejlhgeaaDoorW.PrintMore
attribute [local go_sem] max2_int min2_int max_two min_two max_three min_three max_four min_four
set_option linter.unusedVariables false
set_option linter.unusedSimpArgs false

/-! ### r37_Sure: function 18 -/
def r37_Sure.f (k : Nat) (a0_0 : Bool) (l0_1 : List (S42)) (l0_2 : List (S42)) (l0_3 : List (S42)) (a0_4 : Bool) (a0_5 : Bool) (a0_6 : Int) (a0_7 : Bool) : Option (Bool) := (r37_wanting.f k a0_0 l0_1 l0_2 l0_3 a0_4 a0_5 a0_6 a0_7).bind fun t262 => (some ((t262.length : Int) == 0))
theorem r37_Sure.mono : ∀ a0 a1 a2 a3 a4 a5 a6 a7 k, LeO (r37_Sure.f k a0 a1 a2 a3 a4 a5 a6 a7) (r37_Sure.f (k + 1) a0 a1 a2 a3 a4 a5 a6 a7) := by
 intro a0 a1 a2 a3 a4 a5 a6 a7 k
 unfold r37_Sure.f
 repeat' first
   | (with_reducible exact r37_wanting.mono _ _ _ _ _ _ _ _ _)
   | (with_reducible exact LeO.refl _)
   | (with_reducible exact LeO.none _)
   | (with_reducible refine LeO.ite ?_ ?_)
   | (with_reducible refine LeO.bind ?_ (fun _ => ?_))
   | exact r37_wanting.mono _ _ _ _ _ _ _ _ _
   | exact LeO.none _
   | refine LeO.ite ?_ ?_
   | refine LeO.bind ?_ (fun _ => ?_)
set_option maxHeartbeats 8000000 in
set_option maxRecDepth 100000 in
theorem r37_Sure.calls (k : Nat) (a0_0 : Bool) (A0_1 : Option Addr) (c0_1 : Nat) (l0_1 : List (S42)) (A0_2 : Option Addr) (c0_2 : Nat) (l0_2 : List (S42)) (A0_3 : Option Addr) (c0_3 : Nat) (l0_3 : List (S42)) (a0_4 : Bool) (a0_5 : Bool) (a0_6 : Int) (a0_7 : Bool) (r : Bool) (w : World) (hr0_1 : Kd.C k42 w A0_1 l0_1.length l0_1) (hc0_1 : l0_1.length ≤ c0_1) (hr0_2 : Kd.C k42 w A0_2 l0_2.length l0_2) (hc0_2 : l0_2.length ≤ c0_2) (hr0_3 : Kd.C k42 w A0_3 l0_3.length l0_3) (hc0_3 : l0_3.length ≤ c0_3) (h : r37_Sure.f k a0_0 l0_1 l0_2 l0_3 a0_4 a0_5 a0_6 a0_7 = some r) :
  Calls Tryd.prog 18 #[.agg #[.bool a0_0, .slice A0_1 l0_1.length c0_1, .slice A0_2 l0_2.length c0_2, .slice A0_3 l0_3.length c0_3, .bool a0_4, .bool a0_5, .int .i64 a0_6, .bool a0_7]] w fun e w' => e = .returned (.bool r) ∧ Below w.heap.size w w' := by
 have hu24 := Tryd.underlying24
 have HR0_1 := am hr0_1
 have HC0_1 := am hc0_1
 clear hr0_1 hc0_1
 have HR0_2 := am hr0_2
 have HC0_2 := am hc0_2
 clear hr0_2 hc0_2
 have HR0_3 := am hr0_3
 have HC0_3 := am hc0_3
 clear hr0_3 hc0_3
 have HB := am (Below.refl w.heap.size w)
 have H : ((r37_wanting.f k a0_0 l0_1 l0_2 l0_3 a0_4 a0_5 a0_6 a0_7).bind fun t262 => (some ((t262.length : Int) == 0))) = some r := h
 clear h
 replace H := Option.bind_eq_some_iff.mp H
 obtain ⟨t262, A20, H⟩ := H
 replace H : (some ((t262.length : Int) == 0)) = some r := H
 have A2 := am A20
 clear A20
 obtain rfl := Option.some.inj H
 go_enter Tryd.func18, Tryd.ntmps18
 go_wp2_with (first | ((with_reducible refine gate_dst (N := 1) rfl ?_); refine box_event ?hg (N := 1) ?hd (cs := #[.bool a0_0, .slice A0_1 l0_1.length c0_1, .slice A0_2 l0_2.length c0_2, .slice A0_3 l0_3.length c0_3, .bool a0_4, .bool a0_5, .int .i64 a0_6, .bool a0_7]) (t := 24) ?hr ?_; (case hd => rfl); (case hg => rfl); (case hr => first | (go_simp; done) | (go_simp; rfl)); intro gb261 hg w3 hbox hb; have n0_ := am (below_step (by repeat (first | (with_reducible first | exact HB.out | apply bal | apply bdn | apply bd1) | exact HB.out)) hb); have n1_ := am (hbox); have n2_ := am ((by rw [hg]; exact (below_size (by repeat (first | (with_reducible first | exact HB.out | apply bal | apply bdn | apply bd1) | exact HB.out))) : w.heap.size ≤ gb261)); have n3_ := am ((by rw [hg]; exact (below_size (by repeat (first | (with_reducible first | exact HB.out | apply bal | apply bdn | apply bd1) | exact HB.out))) : w.heap.size ≤ gb261)); clear HB; have HB := n0_; have BK261 := n1_; have GW261 := n2_; have GE261 := n3_; clear n0_ n1_ n2_ n3_; clear hb hbox hg; have hcz4_0 : w3.cell? ⟨gb261, 0, none⟩ = some (.bool a0_0) := (bcl BK261.out 0).trans rfl; have hcz4_1 : w3.cell? ⟨gb261, 1, none⟩ = some (.slice A0_1 l0_1.length c0_1) := (bcl BK261.out 1).trans rfl; have hcz4_2 : w3.cell? ⟨gb261, 2, none⟩ = some (.slice A0_2 l0_2.length c0_2) := (bcl BK261.out 2).trans rfl; have hcz4_3 : w3.cell? ⟨gb261, 3, none⟩ = some (.slice A0_3 l0_3.length c0_3) := (bcl BK261.out 3).trans rfl; have hcz4_4 : w3.cell? ⟨gb261, 4, none⟩ = some (.bool a0_4) := (bcl BK261.out 4).trans rfl; have hcz4_5 : w3.cell? ⟨gb261, 5, none⟩ = some (.bool a0_5) := (bcl BK261.out 5).trans rfl; have hcz4_6 : w3.cell? ⟨gb261, 6, none⟩ = some (.int .i64 a0_6) := (bcl BK261.out 6).trans rfl; have hcz4_7 : w3.cell? ⟨gb261, 7, none⟩ = some (.bool a0_7) := (bcl BK261.out 7).trans rfl; have hfz4_0 := bfz BK261.out 0; have hfz4_1 := bfz BK261.out 1; have hfz4_2 := bfz BK261.out 2; have hfz4_3 := bfz BK261.out 3; have hfz4_4 := bfz BK261.out 4; have hfz4_5 := bfz BK261.out 5; have hfz4_6 := bfz BK261.out 6; have hfz4_7 := bfz BK261.out 7) | ((with_reducible refine gate_callee (f := 39) rfl ?_); refine goesL_ (some 4) rfl rfl Tryd.func39 (by kernel_rfl) rfl #[.agg #[.bool a0_0, .slice A0_1 l0_1.length c0_1, .slice A0_2 l0_2.length c0_2, .slice A0_3 l0_3.length c0_3, .bool a0_4, .bool a0_5, .int .i64 a0_6, .bool a0_7]] rfl (by (try simp only [List.map_toArray, List.map_cons, List.map_nil]); first | done | rfl | (simp only [List.length_drop, List.length_take]; rfl)) ?_; (with_reducible refine (r37_wanting.calls k a0_0 _ _ l0_1 _ _ l0_2 _ _ l0_3 a0_4 a0_5 a0_6 a0_7 t262 _ ?side1 ?side2 ?side3 ?side4 ?side5 ?side6 A2.out).mono ?_); (case side1 => repeat (first | exact (Kd.C_below HR0_1.out HB.out) | (with_reducible refine Kd.C_alloc ?_ _) | (with_reducible refine Kd.C_drewN ?_ _) | (with_reducible refine Kd.C_drew ?_))); (case side2 => exact HC0_1.out); (case side3 => repeat (first | exact (Kd.C_below HR0_2.out HB.out) | (with_reducible refine Kd.C_alloc ?_ _) | (with_reducible refine Kd.C_drewN ?_ _) | (with_reducible refine Kd.C_drew ?_))); (case side4 => exact HC0_2.out); (case side5 => repeat (first | exact (Kd.C_below HR0_3.out HB.out) | (with_reducible refine Kd.C_alloc ?_ _) | (with_reducible refine Kd.C_drewN ?_ _) | (with_reducible refine Kd.C_drew ?_))); (case side6 => exact HC0_3.out); rintro e w5 ⟨v263, rfl, ho0, hb⟩; refine ⟨_, rfl, ?_⟩; have n0_ := am (Kd.R_lower ho0 (below_size (by repeat (first | (with_reducible first | exact HB.out | apply bal | apply bdn | apply bd1 | refine bst ?_ GE261.out) | exact HB.out)))); have n1_ := am (blk_below (g := gb261) (o := .cells #[.bool a0_0, .slice A0_1 l0_1.length c0_1, .slice A0_2 l0_2.length c0_2, .slice A0_3 l0_3.length c0_3, .bool a0_4, .bool a0_5, .int .i64 a0_6, .bool a0_7] 24 (0, 0)) (by (with_reducible repeat (first | refine kdn ?_ _ | refine kdr ?_ | refine kal ?_ _)); exact BK261.out) hb); have n2_ := am (below_step (by repeat (first | (with_reducible first | exact HB.out | apply bal | apply bdn | apply bd1 | refine bst ?_ GE261.out) | exact HB.out)) hb); clear BK261; clear HB; have HO264 := n0_; have BK261 := n1_; have HB := n2_; clear n0_ n1_ n2_; (try clear hb); (try clear hb2); (try clear hk); (try clear hi); (try clear ho0); obtain ⟨Ao6, co6, eo6⟩ := Kd.R_slice HO264.out; subst eo6))
 go_ret
 exact ⟨by first | rfl | (simp [errW_none, errW_some] <;> rfl) | (simp [*, errW_none, errW_some] <;> rfl), by repeat (first | (with_reducible first | exact HB.out | apply bal | apply bdn | apply bd1 | refine bst ?_ GE261.out) | exact HB.out)⟩

end Go.Proofs.YtbgojgoejlhgeaaDoor.Pr
