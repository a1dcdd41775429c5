-- PRINTED by print.py (a twelfth state) out of the translation, parted. Not trusted: Lean checks it.
import Derived.Test.YtbgojgoejlhgeaaDoorG3
import Derived.Test.YtbgojgoejlhgeaaDoorH4
namespace Go.Proofs.YtbgojgoejlhgeaaDoor.Pr
open Go.RowKit Go.Proofs.YtbgojgoejlhgeaaDoorW.PrintWords Go.Proofs.YtbgojgoejlhgeaaDoorW.PrintLast Go.Proofs.YtbgojgoejlhgeaaDoorW.PrintMore
attribute [local go_sem] max2_int min2_int max_two min_two max_three min_three max_four min_four
set_option linter.unusedVariables false
set_option linter.unusedSimpArgs false

/-! ### r37_Great: function 12 -/
def r37_Great.f (a0_0 : Bool) (l0_1 : List (S42)) (l0_2 : List (S42)) (l0_3 : List (S42)) (a0_4 : Bool) (a0_5 : Bool) (a0_6 : Int) (a0_7 : Bool) : Option (Bool) := if (l0_1.length : Int) > 12 then (some true) else (if (l0_2.length : Int) > 12 then (some true) else (some (decide ((l0_3.length : Int) > 12))))
set_option maxHeartbeats 8000000 in
set_option maxRecDepth 100000 in
theorem r37_Great.calls (a0_0 : Bool) (A0_1 : Option Addr) (c0_1 : Nat) (l0_1 : List (S42)) (A0_2 : Option Addr) (c0_2 : Nat) (l0_2 : List (S42)) (A0_3 : Option Addr) (c0_3 : Nat) (l0_3 : List (S42)) (a0_4 : Bool) (a0_5 : Bool) (a0_6 : Int) (a0_7 : Bool) (r : Bool) (w : World) (hr0_1 : Kd.C k42 w A0_1 l0_1.length l0_1) (hc0_1 : l0_1.length ≤ c0_1) (hr0_2 : Kd.C k42 w A0_2 l0_2.length l0_2) (hc0_2 : l0_2.length ≤ c0_2) (hr0_3 : Kd.C k42 w A0_3 l0_3.length l0_3) (hc0_3 : l0_3.length ≤ c0_3) (h : r37_Great.f a0_0 l0_1 l0_2 l0_3 a0_4 a0_5 a0_6 a0_7 = some r) :
  Calls Tryd.prog 12 #[.agg #[.bool a0_0, .slice A0_1 l0_1.length c0_1, .slice A0_2 l0_2.length c0_2, .slice A0_3 l0_3.length c0_3, .bool a0_4, .bool a0_5, .int .i64 a0_6, .bool a0_7]] w fun e w' => e = .returned (.bool r) ∧ Below w.heap.size w w' := by
 have hu24 := Tryd.underlying24
 have HR0_1 := am hr0_1
 have HC0_1 := am hc0_1
 clear hr0_1 hc0_1
 have HR0_2 := am hr0_2
 have HC0_2 := am hc0_2
 clear hr0_2 hc0_2
 have HR0_3 := am hr0_3
 have HC0_3 := am hc0_3
 clear hr0_3 hc0_3
 have HB := am (Below.refl w.heap.size w)
 have H : (if (l0_1.length : Int) > 12 then (some true) else (if (l0_2.length : Int) > 12 then (some true) else (some (decide ((l0_3.length : Int) > 12))))) = some r := h
 clear h
 by_cases c2 : (l0_1.length : Int) > 12
 ·rw [if_pos c2] at H
  have c2b0 : decide (12 < (l0_1.length : Int)) = true := decide_eq_true c2
  have c2b1 : decide (12 < l0_1.length) = true := decide_eq_true (by omega)
  clear c2
  obtain rfl := Option.some.inj H
  go_enter Tryd.func12, Tryd.ntmps12
  go_wp2_with (first | ((with_reducible refine gate_dst (N := 1) rfl ?_); (try (refine gate_guard (by rfl) ?_; dsimp only)); refine box_event ?hg (N := 1) ?hd (cs := #[.bool a0_0, .slice A0_1 l0_1.length c0_1, .slice A0_2 l0_2.length c0_2, .slice A0_3 l0_3.length c0_3, .bool a0_4, .bool a0_5, .int .i64 a0_6, .bool a0_7]) (t := 24) ?hr ?_; (case hd => rfl); (case hg => rfl); (case hr => first | (go_simp; done) | (go_simp; rfl)); intro gb279 hg w3 hbox hb; have n0_ := am (below_step (by repeat (first | (with_reducible first | exact HB.out | apply bal | apply bdn | apply bd1) | exact HB.out)) hb); have n1_ := am (hbox); have n2_ := am ((by rw [hg]; exact (below_size (by repeat (first | (with_reducible first | exact HB.out | apply bal | apply bdn | apply bd1) | exact HB.out))) : w.heap.size ≤ gb279)); have n3_ := am ((by rw [hg]; exact (below_size (by repeat (first | (with_reducible first | exact HB.out | apply bal | apply bdn | apply bd1) | exact HB.out))) : w.heap.size ≤ gb279)); clear HB; have HB := n0_; have BK279 := n1_; have GW279 := n2_; have GE279 := n3_; clear n0_ n1_ n2_ n3_; clear hb hbox hg; have hcz4_0 : w3.cell? ⟨gb279, 0, none⟩ = some (.bool a0_0) := (bcl BK279.out 0).trans rfl; have hcz4_1 : w3.cell? ⟨gb279, 1, none⟩ = some (.slice A0_1 l0_1.length c0_1) := (bcl BK279.out 1).trans rfl; have hcz4_2 : w3.cell? ⟨gb279, 2, none⟩ = some (.slice A0_2 l0_2.length c0_2) := (bcl BK279.out 2).trans rfl; have hcz4_3 : w3.cell? ⟨gb279, 3, none⟩ = some (.slice A0_3 l0_3.length c0_3) := (bcl BK279.out 3).trans rfl; have hcz4_4 : w3.cell? ⟨gb279, 4, none⟩ = some (.bool a0_4) := (bcl BK279.out 4).trans rfl; have hcz4_5 : w3.cell? ⟨gb279, 5, none⟩ = some (.bool a0_5) := (bcl BK279.out 5).trans rfl; have hcz4_6 : w3.cell? ⟨gb279, 6, none⟩ = some (.int .i64 a0_6) := (bcl BK279.out 6).trans rfl; have hcz4_7 : w3.cell? ⟨gb279, 7, none⟩ = some (.bool a0_7) := (bcl BK279.out 7).trans rfl; have hfz4_0 := bfz BK279.out 0; have hfz4_1 := bfz BK279.out 1; have hfz4_2 := bfz BK279.out 2; have hfz4_3 := bfz BK279.out 3; have hfz4_4 := bfz BK279.out 4; have hfz4_5 := bfz BK279.out 5; have hfz4_6 := bfz BK279.out 6; have hfz4_7 := bfz BK279.out 7))
  go_ret
  exact ⟨by first | rfl | (simp [errW_none, errW_some] <;> rfl) | (simp [*, errW_none, errW_some] <;> rfl), by repeat (first | (with_reducible first | exact HB.out | apply bal | apply bdn | apply bd1 | refine bst ?_ GE279.out) | exact HB.out)⟩
 ·rw [if_neg c2] at H
  have c2b0 : decide (12 < (l0_1.length : Int)) = false := decide_eq_false c2
  have c2b1 : decide (12 < l0_1.length) = false := decide_eq_false (by omega)
  clear c2
  by_cases c5 : (l0_2.length : Int) > 12
  ·rw [if_pos c5] at H
   have c5b0 : decide (12 < (l0_2.length : Int)) = true := decide_eq_true c5
   have c5b1 : decide (12 < l0_2.length) = true := decide_eq_true (by omega)
   clear c5
   obtain rfl := Option.some.inj H
   go_enter Tryd.func12, Tryd.ntmps12
   go_wp2_with (first | ((with_reducible refine gate_dst (N := 1) rfl ?_); (try (refine gate_guard (by rfl) ?_; dsimp only)); refine box_event ?hg (N := 1) ?hd (cs := #[.bool a0_0, .slice A0_1 l0_1.length c0_1, .slice A0_2 l0_2.length c0_2, .slice A0_3 l0_3.length c0_3, .bool a0_4, .bool a0_5, .int .i64 a0_6, .bool a0_7]) (t := 24) ?hr ?_; (case hd => rfl); (case hg => rfl); (case hr => first | (go_simp; done) | (go_simp; rfl)); intro gb279 hg w6 hbox hb; have n0_ := am (below_step (by repeat (first | (with_reducible first | exact HB.out | apply bal | apply bdn | apply bd1) | exact HB.out)) hb); have n1_ := am (hbox); have n2_ := am ((by rw [hg]; exact (below_size (by repeat (first | (with_reducible first | exact HB.out | apply bal | apply bdn | apply bd1) | exact HB.out))) : w.heap.size ≤ gb279)); have n3_ := am ((by rw [hg]; exact (below_size (by repeat (first | (with_reducible first | exact HB.out | apply bal | apply bdn | apply bd1) | exact HB.out))) : w.heap.size ≤ gb279)); clear HB; have HB := n0_; have BK279 := n1_; have GW279 := n2_; have GE279 := n3_; clear n0_ n1_ n2_ n3_; clear hb hbox hg; have hcz7_0 : w6.cell? ⟨gb279, 0, none⟩ = some (.bool a0_0) := (bcl BK279.out 0).trans rfl; have hcz7_1 : w6.cell? ⟨gb279, 1, none⟩ = some (.slice A0_1 l0_1.length c0_1) := (bcl BK279.out 1).trans rfl; have hcz7_2 : w6.cell? ⟨gb279, 2, none⟩ = some (.slice A0_2 l0_2.length c0_2) := (bcl BK279.out 2).trans rfl; have hcz7_3 : w6.cell? ⟨gb279, 3, none⟩ = some (.slice A0_3 l0_3.length c0_3) := (bcl BK279.out 3).trans rfl; have hcz7_4 : w6.cell? ⟨gb279, 4, none⟩ = some (.bool a0_4) := (bcl BK279.out 4).trans rfl; have hcz7_5 : w6.cell? ⟨gb279, 5, none⟩ = some (.bool a0_5) := (bcl BK279.out 5).trans rfl; have hcz7_6 : w6.cell? ⟨gb279, 6, none⟩ = some (.int .i64 a0_6) := (bcl BK279.out 6).trans rfl; have hcz7_7 : w6.cell? ⟨gb279, 7, none⟩ = some (.bool a0_7) := (bcl BK279.out 7).trans rfl; have hfz7_0 := bfz BK279.out 0; have hfz7_1 := bfz BK279.out 1; have hfz7_2 := bfz BK279.out 2; have hfz7_3 := bfz BK279.out 3; have hfz7_4 := bfz BK279.out 4; have hfz7_5 := bfz BK279.out 5; have hfz7_6 := bfz BK279.out 6; have hfz7_7 := bfz BK279.out 7))
   go_ret
   exact ⟨by first | rfl | (simp [errW_none, errW_some] <;> rfl) | (simp [*, errW_none, errW_some] <;> rfl), by repeat (first | (with_reducible first | exact HB.out | apply bal | apply bdn | apply bd1 | refine bst ?_ GE279.out) | exact HB.out)⟩
  ·rw [if_neg c5] at H
   have c5b0 : decide (12 < (l0_2.length : Int)) = false := decide_eq_false c5
   have c5b1 : decide (12 < l0_2.length) = false := decide_eq_false (by omega)
   clear c5
   obtain rfl := Option.some.inj H
   go_enter Tryd.func12, Tryd.ntmps12
   go_wp2_with (first | ((with_reducible refine gate_dst (N := 1) rfl ?_); (try (refine gate_guard (by rfl) ?_; dsimp only)); refine box_event ?hg (N := 1) ?hd (cs := #[.bool a0_0, .slice A0_1 l0_1.length c0_1, .slice A0_2 l0_2.length c0_2, .slice A0_3 l0_3.length c0_3, .bool a0_4, .bool a0_5, .int .i64 a0_6, .bool a0_7]) (t := 24) ?hr ?_; (case hd => rfl); (case hg => rfl); (case hr => first | (go_simp; done) | (go_simp; rfl)); intro gb279 hg w8 hbox hb; have n0_ := am (below_step (by repeat (first | (with_reducible first | exact HB.out | apply bal | apply bdn | apply bd1) | exact HB.out)) hb); have n1_ := am (hbox); have n2_ := am ((by rw [hg]; exact (below_size (by repeat (first | (with_reducible first | exact HB.out | apply bal | apply bdn | apply bd1) | exact HB.out))) : w.heap.size ≤ gb279)); have n3_ := am ((by rw [hg]; exact (below_size (by repeat (first | (with_reducible first | exact HB.out | apply bal | apply bdn | apply bd1) | exact HB.out))) : w.heap.size ≤ gb279)); clear HB; have HB := n0_; have BK279 := n1_; have GW279 := n2_; have GE279 := n3_; clear n0_ n1_ n2_ n3_; clear hb hbox hg; have hcz9_0 : w8.cell? ⟨gb279, 0, none⟩ = some (.bool a0_0) := (bcl BK279.out 0).trans rfl; have hcz9_1 : w8.cell? ⟨gb279, 1, none⟩ = some (.slice A0_1 l0_1.length c0_1) := (bcl BK279.out 1).trans rfl; have hcz9_2 : w8.cell? ⟨gb279, 2, none⟩ = some (.slice A0_2 l0_2.length c0_2) := (bcl BK279.out 2).trans rfl; have hcz9_3 : w8.cell? ⟨gb279, 3, none⟩ = some (.slice A0_3 l0_3.length c0_3) := (bcl BK279.out 3).trans rfl; have hcz9_4 : w8.cell? ⟨gb279, 4, none⟩ = some (.bool a0_4) := (bcl BK279.out 4).trans rfl; have hcz9_5 : w8.cell? ⟨gb279, 5, none⟩ = some (.bool a0_5) := (bcl BK279.out 5).trans rfl; have hcz9_6 : w8.cell? ⟨gb279, 6, none⟩ = some (.int .i64 a0_6) := (bcl BK279.out 6).trans rfl; have hcz9_7 : w8.cell? ⟨gb279, 7, none⟩ = some (.bool a0_7) := (bcl BK279.out 7).trans rfl; have hfz9_0 := bfz BK279.out 0; have hfz9_1 := bfz BK279.out 1; have hfz9_2 := bfz BK279.out 2; have hfz9_3 := bfz BK279.out 3; have hfz9_4 := bfz BK279.out 4; have hfz9_5 := bfz BK279.out 5; have hfz9_6 := bfz BK279.out 6; have hfz9_7 := bfz BK279.out 7))
   go_ret
   exact ⟨by first | rfl | (simp [errW_none, errW_some] <;> rfl) | (simp [*, errW_none, errW_some] <;> rfl), by repeat (first | (with_reducible first | exact HB.out | apply bal | apply bdn | apply bd1 | refine bst ?_ GE279.out) | exact HB.out)⟩

/-! ### fence_Sure: function 17 -/
def fence_Sure.f (k : Nat) (a0_0 : Bool) (l0_1 : List (S42)) (l0_2 : List (S42)) (l0_3 : List (S42)) (a0_4 : Bool) (a0_5 : Bool) (a0_6 : Int) (a0_7 : Bool) : Option (Bool) := (fence_State_wanting.f k a0_0 l0_1 l0_2 l0_3 a0_4 a0_5 a0_6 a0_7).bind fun t289 => ((fence_empty.f k t289).bind fun t292 => (some t292))
theorem fence_Sure.mono : ∀ a0 a1 a2 a3 a4 a5 a6 a7 k, LeO (fence_Sure.f k a0 a1 a2 a3 a4 a5 a6 a7) (fence_Sure.f (k + 1) a0 a1 a2 a3 a4 a5 a6 a7) := by
 intro a0 a1 a2 a3 a4 a5 a6 a7 k
 unfold fence_Sure.f
 repeat' first
   | (with_reducible exact fence_State_wanting.mono _ _ _ _ _ _ _ _ _)
   | (with_reducible exact fence_empty.mono _ _)
   | (with_reducible exact LeO.refl _)
   | (with_reducible exact LeO.none _)
   | (with_reducible refine LeO.ite ?_ ?_)
   | (with_reducible refine LeO.bind ?_ (fun _ => ?_))
   | exact fence_State_wanting.mono _ _ _ _ _ _ _ _ _
   | exact fence_empty.mono _ _
   | exact LeO.none _
   | refine LeO.ite ?_ ?_
   | refine LeO.bind ?_ (fun _ => ?_)
set_option maxHeartbeats 8000000 in
set_option maxRecDepth 100000 in
theorem fence_Sure.calls (k : Nat) (a0_0 : Bool) (A0_1 : Option Addr) (c0_1 : Nat) (l0_1 : List (S42)) (A0_2 : Option Addr) (c0_2 : Nat) (l0_2 : List (S42)) (A0_3 : Option Addr) (c0_3 : Nat) (l0_3 : List (S42)) (a0_4 : Bool) (a0_5 : Bool) (a0_6 : Int) (a0_7 : Bool) (r : Bool) (w : World) (hr0_1 : Kd.C k42 w A0_1 l0_1.length l0_1) (hc0_1 : l0_1.length ≤ c0_1) (hr0_2 : Kd.C k42 w A0_2 l0_2.length l0_2) (hc0_2 : l0_2.length ≤ c0_2) (hr0_3 : Kd.C k42 w A0_3 l0_3.length l0_3) (hc0_3 : l0_3.length ≤ c0_3) (h : fence_Sure.f k a0_0 l0_1 l0_2 l0_3 a0_4 a0_5 a0_6 a0_7 = some r) :
  Calls Tryd.prog 17 #[.agg #[.bool a0_0, .slice A0_1 l0_1.length c0_1, .slice A0_2 l0_2.length c0_2, .slice A0_3 l0_3.length c0_3, .bool a0_4, .bool a0_5, .int .i64 a0_6, .bool a0_7]] w fun e w' => e = .returned (.bool r) ∧ Below w.heap.size w w' := by
 have hu31 := Tryd.underlying31
 have HR0_1 := am hr0_1
 have HC0_1 := am hc0_1
 clear hr0_1 hc0_1
 have HR0_2 := am hr0_2
 have HC0_2 := am hc0_2
 clear hr0_2 hc0_2
 have HR0_3 := am hr0_3
 have HC0_3 := am hc0_3
 clear hr0_3 hc0_3
 have HB := am (Below.refl w.heap.size w)
 have H : ((fence_State_wanting.f k a0_0 l0_1 l0_2 l0_3 a0_4 a0_5 a0_6 a0_7).bind fun t289 => ((fence_empty.f k t289).bind fun t292 => (some t292))) = some r := h
 clear h
 replace H := Option.bind_eq_some_iff.mp H
 obtain ⟨t289, A20, H⟩ := H
 replace H : ((fence_empty.f k t289).bind fun t292 => (some t292)) = some r := H
 have A2 := am A20
 clear A20
 replace H := Option.bind_eq_some_iff.mp H
 obtain ⟨t292, A30, H⟩ := H
 replace H : (some t292) = some r := H
 have A3 := am A30
 clear A30
 obtain rfl := Option.some.inj H
 go_enter Tryd.func17, Tryd.ntmps17
 go_wp2_with (first | ((with_reducible refine gate_dst (N := 1) rfl ?_); refine box_event ?hg (N := 1) ?hd (cs := #[.bool a0_0, .slice A0_1 l0_1.length c0_1, .slice A0_2 l0_2.length c0_2, .slice A0_3 l0_3.length c0_3, .bool a0_4, .bool a0_5, .int .i64 a0_6, .bool a0_7]) (t := 31) ?hr ?_; (case hd => rfl); (case hg => rfl); (case hr => first | (go_simp; done) | (go_simp; rfl)); intro gb288 hg w4 hbox hb; have n0_ := am (below_step (by repeat (first | (with_reducible first | exact HB.out | apply bal | apply bdn | apply bd1) | exact HB.out)) hb); have n1_ := am (hbox); have n2_ := am ((by rw [hg]; exact (below_size (by repeat (first | (with_reducible first | exact HB.out | apply bal | apply bdn | apply bd1) | exact HB.out))) : w.heap.size ≤ gb288)); have n3_ := am ((by rw [hg]; exact (below_size (by repeat (first | (with_reducible first | exact HB.out | apply bal | apply bdn | apply bd1) | exact HB.out))) : w.heap.size ≤ gb288)); clear HB; have HB := n0_; have BK288 := n1_; have GW288 := n2_; have GE288 := n3_; clear n0_ n1_ n2_ n3_; clear hb hbox hg; have hcz5_0 : w4.cell? ⟨gb288, 0, none⟩ = some (.bool a0_0) := (bcl BK288.out 0).trans rfl; have hcz5_1 : w4.cell? ⟨gb288, 1, none⟩ = some (.slice A0_1 l0_1.length c0_1) := (bcl BK288.out 1).trans rfl; have hcz5_2 : w4.cell? ⟨gb288, 2, none⟩ = some (.slice A0_2 l0_2.length c0_2) := (bcl BK288.out 2).trans rfl; have hcz5_3 : w4.cell? ⟨gb288, 3, none⟩ = some (.slice A0_3 l0_3.length c0_3) := (bcl BK288.out 3).trans rfl; have hcz5_4 : w4.cell? ⟨gb288, 4, none⟩ = some (.bool a0_4) := (bcl BK288.out 4).trans rfl; have hcz5_5 : w4.cell? ⟨gb288, 5, none⟩ = some (.bool a0_5) := (bcl BK288.out 5).trans rfl; have hcz5_6 : w4.cell? ⟨gb288, 6, none⟩ = some (.int .i64 a0_6) := (bcl BK288.out 6).trans rfl; have hcz5_7 : w4.cell? ⟨gb288, 7, none⟩ = some (.bool a0_7) := (bcl BK288.out 7).trans rfl; have hfz5_0 := bfz BK288.out 0; have hfz5_1 := bfz BK288.out 1; have hfz5_2 := bfz BK288.out 2; have hfz5_3 := bfz BK288.out 3; have hfz5_4 := bfz BK288.out 4; have hfz5_5 := bfz BK288.out 5; have hfz5_6 := bfz BK288.out 6; have hfz5_7 := bfz BK288.out 7) | ((with_reducible refine gate_callee (f := 38) rfl ?_); refine goesL_ (some 4) rfl rfl Tryd.func38 (by kernel_rfl) rfl #[.agg #[.bool a0_0, .slice A0_1 l0_1.length c0_1, .slice A0_2 l0_2.length c0_2, .slice A0_3 l0_3.length c0_3, .bool a0_4, .bool a0_5, .int .i64 a0_6, .bool a0_7]] rfl (by (try simp only [List.map_toArray, List.map_cons, List.map_nil]); first | done | rfl | (simp only [List.length_drop, List.length_take]; rfl)) ?_; (with_reducible refine (fence_State_wanting.calls k a0_0 _ _ l0_1 _ _ l0_2 _ _ l0_3 a0_4 a0_5 a0_6 a0_7 t289 _ ?side1 ?side2 ?side3 ?side4 ?side5 ?side6 A2.out).mono ?_); (case side1 => repeat (first | exact (Kd.C_below HR0_1.out HB.out) | (with_reducible refine Kd.C_alloc ?_ _) | (with_reducible refine Kd.C_drewN ?_ _) | (with_reducible refine Kd.C_drew ?_))); (case side2 => exact HC0_1.out); (case side3 => repeat (first | exact (Kd.C_below HR0_2.out HB.out) | (with_reducible refine Kd.C_alloc ?_ _) | (with_reducible refine Kd.C_drewN ?_ _) | (with_reducible refine Kd.C_drew ?_))); (case side4 => exact HC0_2.out); (case side5 => repeat (first | exact (Kd.C_below HR0_3.out HB.out) | (with_reducible refine Kd.C_alloc ?_ _) | (with_reducible refine Kd.C_drewN ?_ _) | (with_reducible refine Kd.C_drew ?_))); (case side6 => exact HC0_3.out); rintro e w6 ⟨v290, rfl, ho0, hb⟩; refine ⟨_, rfl, ?_⟩; have n0_ := am (Kd.R_lower ho0 (below_size (by repeat (first | (with_reducible first | exact HB.out | apply bal | apply bdn | apply bd1 | refine bst ?_ GE288.out) | exact HB.out)))); have n1_ := am (blk_below (g := gb288) (o := .cells #[.bool a0_0, .slice A0_1 l0_1.length c0_1, .slice A0_2 l0_2.length c0_2, .slice A0_3 l0_3.length c0_3, .bool a0_4, .bool a0_5, .int .i64 a0_6, .bool a0_7] 31 (0, 0)) (by (with_reducible repeat (first | refine kdn ?_ _ | refine kdr ?_ | refine kal ?_ _)); exact BK288.out) hb); have n2_ := am (below_step (by repeat (first | (with_reducible first | exact HB.out | apply bal | apply bdn | apply bd1 | refine bst ?_ GE288.out) | exact HB.out)) hb); clear BK288; clear HB; have HO291 := n0_; have BK288 := n1_; have HB := n2_; clear n0_ n1_ n2_; (try clear hb); (try clear hb2); (try clear hk); (try clear hi); (try clear ho0); obtain ⟨Ao7, co7, eo7⟩ := Kd.R_slice HO291.out; subst eo7) | ((with_reducible refine gate_callee (f := 35) rfl ?_); refine goesL_ (some 5) rfl rfl Tryd.func35 (by kernel_rfl) rfl #[.agg #[.slice Ao7 t289.length co7]] rfl (by (try simp only [List.map_toArray, List.map_cons, List.map_nil]); first | done | rfl | (simp only [List.length_drop, List.length_take]; rfl)) ?_; (with_reducible refine (fence_empty.calls k _ _ t289 t292 _ ?side1 ?side2 A3.out).mono ?_); (case side1 => repeat (first | exact (Kd.R_reads' HO291.out).2.2 | (with_reducible refine Kd.C_alloc ?_ _) | (with_reducible refine Kd.C_drewN ?_ _) | (with_reducible refine Kd.C_drew ?_))); (case side2 => exact (Kd.R_reads' HO291.out).2.1); rintro e w8 ⟨rfl, hb⟩; refine ⟨_, rfl, ?_⟩; have n0_ := am (Kd.R_below (by (with_reducible repeat (first | apply Kd.R_alloc | apply Kd.R_drewN | apply Kd.R_drew)); exact HO291.out) hb); have n1_ := am (blk_below (g := gb288) (o := .cells #[.bool a0_0, .slice A0_1 l0_1.length c0_1, .slice A0_2 l0_2.length c0_2, .slice A0_3 l0_3.length c0_3, .bool a0_4, .bool a0_5, .int .i64 a0_6, .bool a0_7] 31 (0, 0)) (by (with_reducible repeat (first | refine kdn ?_ _ | refine kdr ?_ | refine kal ?_ _)); exact BK288.out) hb); have n2_ := am (below_step (by repeat (first | (with_reducible first | exact HB.out | apply bal | apply bdn | apply bd1 | refine bst ?_ GE288.out) | exact HB.out)) hb); clear HO291; clear BK288; clear HB; have HO291 := n0_; have BK288 := n1_; have HB := n2_; clear n0_ n1_ n2_; (try clear hb); (try clear hb2); (try clear hk); (try clear hi)))
 go_ret
 exact ⟨by first | rfl | (simp [errW_none, errW_some] <;> rfl) | (simp [*, errW_none, errW_some] <;> rfl), by repeat (first | (with_reducible first | exact HB.out | apply bal | apply bdn | apply bd1 | refine bst ?_ GE288.out) | exact HB.out)⟩

/-! ### w37_own: function 14 -/
def w37_own.f (a0_0 : Bool) (l0_1 : List (S42)) (l0_2 : List (S42)) (l0_3 : List (S42)) (a0_4 : Bool) (a0_5 : Bool) (a0_6 : Int) (a0_7 : Bool) : Option (Bool × (List (S42)) × (List (S42)) × (List (S42)) × Bool × Bool × Int × Bool) := (ranges_Of.f l0_1).bind fun t295 => ((ranges_Of.f l0_2).bind fun t298 => ((ranges_Of.f l0_3).bind fun t301 => (some (a0_0, t295, t298, t301, a0_4, a0_5, a0_6, a0_7))))
def w37_own.T1 : Bool × List (List Nat × List Nat) := (true, [([], []), ([0], [0]), ([], []), ([2], [2]), ([3], [3]), ([], []), ([5], [5]), ([6, 4], [6]), ([], []), ([8], [8]), ([9, 7], [9]), ([], []), ([11], [11]), ([], []), ([13], [13]), ([], []), ([15], [15]), ([], []), ([17], [17]), ([1, 4, 7, 10, 12, 14, 16, 18], [1, 4, 7, 10, 12, 14, 16, 18]), ([19, 10, 0, 1, 2, 3, 4, 5, 6, 7, 8, 9, 10, 11, 12, 13, 14, 15, 16, 17, 18, 19], [19])])
def w37_own.B1 : List Nat := [0, 1, 0, 4, 12, 0, 32, 124, 0, 256, 1020, 0, 2048, 0, 8192, 0, 32768, 0, 131072, 524287, 1048575]
theorem w37_own.tab1 : rtab .any (opsOf Tryd.f14 1) = w37_own.T1 := by kernel_rfl
theorem w37_own.bits1 : waitsOk w37_own.T1.2 w37_own.B1 = true := by kernel_rfl
set_option maxHeartbeats 8000000 in
set_option maxRecDepth 100000 in
theorem w37_own.calls (a0_0 : Bool) (A0_1 : Option Addr) (c0_1 : Nat) (l0_1 : List (S42)) (A0_2 : Option Addr) (c0_2 : Nat) (l0_2 : List (S42)) (A0_3 : Option Addr) (c0_3 : Nat) (l0_3 : List (S42)) (a0_4 : Bool) (a0_5 : Bool) (a0_6 : Int) (a0_7 : Bool) (r1 : Bool) (r2 : List (S42)) (r3 : List (S42)) (r4 : List (S42)) (r5 : Bool) (r6 : Bool) (r7 : Int) (r8 : Bool) (w : World) (hr0_1 : Kd.C k42 w A0_1 l0_1.length l0_1) (hc0_1 : l0_1.length ≤ c0_1) (hr0_2 : Kd.C k42 w A0_2 l0_2.length l0_2) (hc0_2 : l0_2.length ≤ c0_2) (hr0_3 : Kd.C k42 w A0_3 l0_3.length l0_3) (hc0_3 : l0_3.length ≤ c0_3) (h : w37_own.f a0_0 l0_1 l0_2 l0_3 a0_4 a0_5 a0_6 a0_7 = some (r1, r2, r3, r4, r5, r6, r7, r8)) :
  Calls Tryd.prog 14 #[.agg #[.bool a0_0, .slice A0_1 l0_1.length c0_1, .slice A0_2 l0_2.length c0_2, .slice A0_3 l0_3.length c0_3, .bool a0_4, .bool a0_5, .int .i64 a0_6, .bool a0_7]] w fun e w' => ∃ v1_ v2_ v3_ : Value, e = .returned (.agg #[.bool r1, v1_, v2_, v3_, .bool r5, .bool r6, .int .i64 r7, .bool r8]) ∧ Kd.R k42 42 w' w.heap.size (fun k_ => some k_ ≠ (v2_ : Value).ownBlock ∧ some k_ ≠ (v3_ : Value).ownBlock) v1_ r2 ∧ Kd.R k42 42 w' w.heap.size (fun k_ => some k_ ≠ (v1_ : Value).ownBlock ∧ some k_ ≠ (v3_ : Value).ownBlock) v2_ r3 ∧ Kd.R k42 42 w' w.heap.size (fun k_ => some k_ ≠ (v1_ : Value).ownBlock ∧ some k_ ≠ (v2_ : Value).ownBlock) v3_ r4 ∧ Below w.heap.size w w' := by
 have hu24 := Tryd.underlying24
 have hu31 := Tryd.underlying31
 have HR0_1 := am hr0_1
 have HC0_1 := am hc0_1
 clear hr0_1 hc0_1
 have HR0_2 := am hr0_2
 have HC0_2 := am hc0_2
 clear hr0_2 hc0_2
 have HR0_3 := am hr0_3
 have HC0_3 := am hc0_3
 clear hr0_3 hc0_3
 have HB := am (Below.refl w.heap.size w)
 have H : ((ranges_Of.f l0_1).bind fun t295 => ((ranges_Of.f l0_2).bind fun t298 => ((ranges_Of.f l0_3).bind fun t301 => (some (a0_0, t295, t298, t301, a0_4, a0_5, a0_6, a0_7))))) = some (r1, r2, r3, r4, r5, r6, r7, r8) := h
 clear h
 replace H := Option.bind_eq_some_iff.mp H
 obtain ⟨t295, A20, H⟩ := H
 replace H : ((ranges_Of.f l0_2).bind fun t298 => ((ranges_Of.f l0_3).bind fun t301 => (some (a0_0, t295, t298, t301, a0_4, a0_5, a0_6, a0_7)))) = some (r1, r2, r3, r4, r5, r6, r7, r8) := H
 have A2 := am A20
 clear A20
 replace H := Option.bind_eq_some_iff.mp H
 obtain ⟨t298, A30, H⟩ := H
 replace H : ((ranges_Of.f l0_3).bind fun t301 => (some (a0_0, t295, t298, t301, a0_4, a0_5, a0_6, a0_7))) = some (r1, r2, r3, r4, r5, r6, r7, r8) := H
 have A3 := am A30
 clear A30
 replace H := Option.bind_eq_some_iff.mp H
 obtain ⟨t301, A40, H⟩ := H
 replace H : (some (a0_0, t295, t298, t301, a0_4, a0_5, a0_6, a0_7)) = some (r1, r2, r3, r4, r5, r6, r7, r8) := H
 have A4 := am A40
 clear A40
 simp only [Option.some.injEq, Prod.mk.injEq] at H
 obtain ⟨rfl, rfl, rfl, rfl, rfl, rfl, rfl, rfl⟩ := H
 go_enter Tryd.func14, Tryd.ntmps14
 try go_wp2_with (first | ((with_reducible refine gate_dst (N := 1) rfl ?_); refine box_event ?hg (N := 1) ?hd (cs := #[.bool a0_0, .slice A0_1 l0_1.length c0_1, .slice A0_2 l0_2.length c0_2, .slice A0_3 l0_3.length c0_3, .bool a0_4, .bool a0_5, .int .i64 a0_6, .bool a0_7]) (t := 24) ?hr ?_; (case hd => rfl); (case hg => rfl); (case hr => first | (go_simp; done) | (go_simp; rfl)); intro gb293 hg w5 hbox hb; have n0_ := am (below_step (by repeat (first | (with_reducible first | exact HB.out | apply bal | apply bdn | apply bd1) | exact HB.out)) hb); have n1_ := am (hbox); have n2_ := am ((by rw [hg]; exact (below_size (by repeat (first | (with_reducible first | exact HB.out | apply bal | apply bdn | apply bd1) | exact HB.out))) : w.heap.size ≤ gb293)); have n3_ := am ((by rw [hg]; exact (below_size (by repeat (first | (with_reducible first | exact HB.out | apply bal | apply bdn | apply bd1) | exact HB.out))) : w.heap.size ≤ gb293)); clear HB; have HB := n0_; have BK293 := n1_; have GW293 := n2_; have GE293 := n3_; clear n0_ n1_ n2_ n3_; clear hb hbox hg) | ((with_reducible refine gate_dst (N := 2) rfl ?_); refine box_event ?hg (N := 2) ?hd (cs := #[.bool false, .slice none 0 0, .slice none 0 0, .slice none 0 0, .bool false, .bool false, .int .i64 0, .bool false]) (t := 31) ?hr ?_; (case hd => rfl); (case hg => rfl); (case hr => first | (go_simp; done) | (go_simp; rfl)); intro gb294 hg w6 hbox hb; have n0_ := am (blk_below (g := gb293) (o := .cells #[.bool a0_0, .slice A0_1 l0_1.length c0_1, .slice A0_2 l0_2.length c0_2, .slice A0_3 l0_3.length c0_3, .bool a0_4, .bool a0_5, .int .i64 a0_6, .bool a0_7] 24 (0, 0)) (by (with_reducible repeat (first | refine kdn ?_ _ | refine kdr ?_ | refine kal ?_ _)); exact BK293.out) hb); have n1_ := am (below_step (by repeat (first | (with_reducible first | exact HB.out | apply bal | apply bdn | apply bd1 | refine bst ?_ GE293.out) | exact HB.out)) hb); have n2_ := am (hbox); have n3_ := am ((by rw [hg]; exact (below_size (by repeat (first | (with_reducible first | exact HB.out | apply bal | apply bdn | apply bd1 | refine bst ?_ GE293.out) | exact HB.out))) : w.heap.size ≤ gb294)); have n4_ := am ((by rw [hg]; exact (below_size (by repeat (first | (with_reducible first | exact HB.out | apply bal | apply bdn | apply bd1 | refine bst ?_ GE293.out) | exact HB.out))) : w.heap.size ≤ gb294)); have n5_ := am ((by rw [hg]; exact Nat.ne_of_lt (blk_lt (g := gb293) (o := .cells #[.bool a0_0, .slice A0_1 l0_1.length c0_1, .slice A0_2 l0_2.length c0_2, .slice A0_3 l0_3.length c0_3, .bool a0_4, .bool a0_5, .int .i64 a0_6, .bool a0_7] 24 (0, 0)) (by (with_reducible repeat (first | refine kdn ?_ _ | refine kdr ?_ | refine kal ?_ _)); exact BK293.out)) : gb293 ≠ gb294)); have n6_ := am ((by rw [hg]; exact Nat.ne_of_gt (blk_lt (g := gb293) (o := .cells #[.bool a0_0, .slice A0_1 l0_1.length c0_1, .slice A0_2 l0_2.length c0_2, .slice A0_3 l0_3.length c0_3, .bool a0_4, .bool a0_5, .int .i64 a0_6, .bool a0_7] 24 (0, 0)) (by (with_reducible repeat (first | refine kdn ?_ _ | refine kdr ?_ | refine kal ?_ _)); exact BK293.out)) : gb294 ≠ gb293)); clear BK293; clear HB; have BK293 := n0_; have HB := n1_; have BK294 := n2_; have GW294 := n3_; have GE294 := n4_; have NB293_294 := n5_; have NB294_293 := n6_; clear n0_ n1_ n2_ n3_ n4_ n5_ n6_; clear hb hbox hg))
 have n0_ := am (kdr BK293.out)
 have n1_ := am (kdr BK294.out)
 have n2_ := am (bd1 HB.out)
 clear BK293
 clear BK294
 clear HB
 have BK293 := n0_
 have BK294 := n1_
 have HB := n2_
 clear n0_ n1_ n2_
 refine start_ (n := 21) (S := fun w' => w'.cell? ⟨gb293, 0, none⟩ = some (.bool a0_0) ∧ w'.cell? ⟨gb293, 1, none⟩ = some (.slice A0_1 l0_1.length c0_1) ∧ w'.cell? ⟨gb293, 2, none⟩ = some (.slice A0_2 l0_2.length c0_2) ∧ w'.cell? ⟨gb293, 3, none⟩ = some (.slice A0_3 l0_3.length c0_3) ∧ w'.cell? ⟨gb293, 4, none⟩ = some (.bool a0_4) ∧ w'.cell? ⟨gb293, 5, none⟩ = some (.bool a0_5) ∧ w'.cell? ⟨gb293, 6, none⟩ = some (.int .i64 a0_6) ∧ w'.cell? ⟨gb293, 7, none⟩ = some (.bool a0_7)) (ds := []) #[false, false, false, false, false, false, false, false, false, false, false, false, false, false, false, false, false, false, false, false, false] (by kernel_rfl) rfl rfl ⟨(bcl BK293.out 0).trans rfl, (bcl BK293.out 1).trans rfl, (bcl BK293.out 2).trans rfl, (bcl BK293.out 3).trans rfl, (bcl BK293.out 4).trans rfl, (bcl BK293.out 5).trans rfl, (bcl BK293.out 6).trans rfl, (bcl BK293.out 7).trans rfl⟩ (fun hHeld => ?_); refine with_tabW w37_own.tab1 w37_own.bits1 (fun HT_ HW_ => ?_)
 generalize w6.drew = w7 at BK293 BK294 HB hHeld ⊢
 refine pure_ (i := 0) (N := some 3) (v := ?_) (a' := ?_) #[true, false, false, false, false, false, false, false, false, false, false, false, false, false, false, false, false, false, false, false, false] rfl rfl (any_of HT_.out (by kernel_rfl)) (fun _ _ _ h => h) (Or.inl ⟨by rfl, ?_⟩) ?_ ?_
 rotate_left
 ·intro w'
  go_simp
  with_reducible rfl
 rotate_left
 ·simp only [Act.put, sb1, sb2, sb3, i64_w, i32_w]
  rfl
 refine pure_ (i := 2) (N := some 5) (v := ?_) (a' := ?_) #[true, false, true, false, false, false, false, false, false, false, false, false, false, false, false, false, false, false, false, false, false] rfl rfl (any_of HT_.out (by kernel_rfl)) (fun _ _ _ h => h) (Or.inl ⟨by rfl, ?_⟩) ?_ ?_
 rotate_left
 ·intro w'
  go_simp
  with_reducible rfl
 rotate_left
 ·simp only [Act.put, sb1, sb2, sb3, i64_w, i32_w]
  rfl
 refine pure_ (i := 5) (N := some 8) (v := ?_) (a' := ?_) #[true, false, true, false, false, true, false, false, false, false, false, false, false, false, false, false, false, false, false, false, false] rfl rfl (any_of HT_.out (by kernel_rfl)) (fun _ _ _ h => h) (Or.inl ⟨by rfl, ?_⟩) ?_ ?_
 rotate_left
 ·intro w'
  go_simp
  with_reducible rfl
 rotate_left
 ·simp only [Act.put, sb1, sb2, sb3, i64_w, i32_w]
  rfl
 refine pure_ (i := 8) (N := some 11) (v := ?_) (a' := ?_) #[true, false, true, false, false, true, false, false, true, false, false, false, false, false, false, false, false, false, false, false, false] rfl rfl (any_of HT_.out (by kernel_rfl)) (fun _ _ _ h => h) (Or.inl ⟨by rfl, ?_⟩) ?_ ?_
 rotate_left
 ·intro w'
  go_simp
  with_reducible rfl
 rotate_left
 ·simp only [Act.put, sb1, sb2, sb3, i64_w, i32_w]
  rfl
 refine pure_ (i := 11) (N := some 14) (v := ?_) (a' := ?_) #[true, false, true, false, false, true, false, false, true, false, false, true, false, false, false, false, false, false, false, false, false] rfl rfl (any_of HT_.out (by kernel_rfl)) (fun _ _ _ h => h) (Or.inl ⟨by rfl, ?_⟩) ?_ ?_
 rotate_left
 ·intro w'
  go_simp
  with_reducible rfl
 rotate_left
 ·simp only [Act.put, sb1, sb2, sb3, i64_w, i32_w]
  rfl
 refine pure_ (i := 13) (N := some 16) (v := ?_) (a' := ?_) #[true, false, true, false, false, true, false, false, true, false, false, true, false, true, false, false, false, false, false, false, false] rfl rfl (any_of HT_.out (by kernel_rfl)) (fun _ _ _ h => h) (Or.inl ⟨by rfl, ?_⟩) ?_ ?_
 rotate_left
 ·intro w'
  go_simp
  with_reducible rfl
 rotate_left
 ·simp only [Act.put, sb1, sb2, sb3, i64_w, i32_w]
  rfl
 refine pure_ (i := 15) (N := some 18) (v := ?_) (a' := ?_) #[true, false, true, false, false, true, false, false, true, false, false, true, false, true, false, true, false, false, false, false, false] rfl rfl (any_of HT_.out (by kernel_rfl)) (fun _ _ _ h => h) (Or.inl ⟨by rfl, ?_⟩) ?_ ?_
 rotate_left
 ·intro w'
  go_simp
  with_reducible rfl
 rotate_left
 ·simp only [Act.put, sb1, sb2, sb3, i64_w, i32_w]
  rfl
 refine pure_ (i := 17) (N := some 20) (v := ?_) (a' := ?_) #[true, false, true, false, false, true, false, false, true, false, false, true, false, true, false, true, false, true, false, false, false] rfl rfl (any_of HT_.out (by kernel_rfl)) (fun _ _ _ h => h) (Or.inl ⟨by rfl, ?_⟩) ?_ ?_
 rotate_left
 ·intro w'
  go_simp
  with_reducible rfl
 rotate_left
 ·simp only [Act.put, sb1, sb2, sb3, i64_w, i32_w]
  rfl
 refine take_ (i := 1) (N := some 4) (v := ?_) (a' := ?_) #[true, true, true, false, false, true, false, false, true, false, false, true, false, true, false, true, false, true, false, false, false] rfl rfl (take_ofW HT_.out HW_.out (by kernel_rfl)) (fun _ _ _ h => h) (Or.inl ⟨by rfl, ?_⟩) hHeld ?_ ?_
 rotate_left
 ·rintro w' ⟨s0, s1, s2, s3, s4, s5, s6, s7⟩
  go_simp
  with_reducible rfl
 rotate_left
 ·simp only [Act.put, sb1, sb2, sb3, i64_w, i32_w]
  rfl
 refine take_ (i := 3) (N := some 6) (v := ?_) (a' := ?_) #[true, true, true, true, false, true, false, false, true, false, false, true, false, true, false, true, false, true, false, false, false] rfl rfl (take_ofW HT_.out HW_.out (by kernel_rfl)) (fun _ _ _ h => h) (Or.inl ⟨by rfl, ?_⟩) hHeld ?_ ?_
 rotate_left
 ·rintro w' ⟨s0, s1, s2, s3, s4, s5, s6, s7⟩
  go_simp
  with_reducible rfl
 rotate_left
 ·simp only [Act.put, sb1, sb2, sb3, i64_w, i32_w]
  rfl
 refine take_ (i := 6) (N := some 9) (v := ?_) (a' := ?_) #[true, true, true, true, false, true, true, false, true, false, false, true, false, true, false, true, false, true, false, false, false] rfl rfl (take_ofW HT_.out HW_.out (by kernel_rfl)) (fun _ _ _ h => h) (Or.inl ⟨by rfl, ?_⟩) hHeld ?_ ?_
 rotate_left
 ·rintro w' ⟨s0, s1, s2, s3, s4, s5, s6, s7⟩
  go_simp
  with_reducible rfl
 rotate_left
 ·simp only [Act.put, sb1, sb2, sb3, i64_w, i32_w]
  rfl
 refine take_ (i := 9) (N := some 12) (v := ?_) (a' := ?_) #[true, true, true, true, false, true, true, false, true, true, false, true, false, true, false, true, false, true, false, false, false] rfl rfl (take_ofW HT_.out HW_.out (by kernel_rfl)) (fun _ _ _ h => h) (Or.inl ⟨by rfl, ?_⟩) hHeld ?_ ?_
 rotate_left
 ·rintro w' ⟨s0, s1, s2, s3, s4, s5, s6, s7⟩
  go_simp
  with_reducible rfl
 rotate_left
 ·simp only [Act.put, sb1, sb2, sb3, i64_w, i32_w]
  rfl
 refine take_ (i := 12) (N := some 15) (v := ?_) (a' := ?_) #[true, true, true, true, false, true, true, false, true, true, false, true, true, true, false, true, false, true, false, false, false] rfl rfl (take_ofW HT_.out HW_.out (by kernel_rfl)) (fun _ _ _ h => h) (Or.inl ⟨by rfl, ?_⟩) hHeld ?_ ?_
 rotate_left
 ·rintro w' ⟨s0, s1, s2, s3, s4, s5, s6, s7⟩
  go_simp
  with_reducible rfl
 rotate_left
 ·simp only [Act.put, sb1, sb2, sb3, i64_w, i32_w]
  rfl
 refine take_ (i := 14) (N := some 17) (v := ?_) (a' := ?_) #[true, true, true, true, false, true, true, false, true, true, false, true, true, true, true, true, false, true, false, false, false] rfl rfl (take_ofW HT_.out HW_.out (by kernel_rfl)) (fun _ _ _ h => h) (Or.inl ⟨by rfl, ?_⟩) hHeld ?_ ?_
 rotate_left
 ·rintro w' ⟨s0, s1, s2, s3, s4, s5, s6, s7⟩
  go_simp
  with_reducible rfl
 rotate_left
 ·simp only [Act.put, sb1, sb2, sb3, i64_w, i32_w]
  rfl
 refine take_ (i := 16) (N := some 19) (v := ?_) (a' := ?_) #[true, true, true, true, false, true, true, false, true, true, false, true, true, true, true, true, true, true, false, false, false] rfl rfl (take_ofW HT_.out HW_.out (by kernel_rfl)) (fun _ _ _ h => h) (Or.inl ⟨by rfl, ?_⟩) hHeld ?_ ?_
 rotate_left
 ·rintro w' ⟨s0, s1, s2, s3, s4, s5, s6, s7⟩
  go_simp
  with_reducible rfl
 rotate_left
 ·simp only [Act.put, sb1, sb2, sb3, i64_w, i32_w]
  rfl
 refine take_ (i := 18) (N := some 21) (v := ?_) (a' := ?_) #[true, true, true, true, false, true, true, false, true, true, false, true, true, true, true, true, true, true, true, false, false] rfl rfl (take_ofW HT_.out HW_.out (by kernel_rfl)) (fun _ _ _ h => h) (Or.inl ⟨by rfl, ?_⟩) hHeld ?_ ?_
 rotate_left
 ·rintro w' ⟨s0, s1, s2, s3, s4, s5, s6, s7⟩
  go_simp
  with_reducible rfl
 rotate_left
 ·simp only [Act.put, sb1, sb2, sb3, i64_w, i32_w]
  rfl
 refine one_ (i := 4) (N := some 7) #[true, true, true, true, true, true, true, false, true, true, false, true, true, true, true, true, true, true, true, false, false] rfl rfl (one_of HT_.out (by kernel_rfl)) (by decide) (fun K hK => ?_)
 refine goes_ Tryd.func29 (by kernel_rfl) rfl #[.slice A0_1 l0_1.length c0_1] (by rfl) rfl rfl (by (try simp only [List.map_toArray, List.map_cons, List.map_nil]); first | done | rfl | (simp only [List.length_drop, List.length_take]; rfl)) ?_
 with_reducible refine (ranges_Of.calls _ _ l0_1 t295 _ ?side1 ?side2 A2.out).mono ?_
 (case side1 => repeat (first | exact (Kd.C_below HR0_1.out HB.out) | (with_reducible refine Kd.C_alloc ?_ _) | (with_reducible refine Kd.C_drewN ?_ _) | (with_reducible refine Kd.C_drew ?_)))
 (case side2 => exact HC0_1.out)
 rintro e w8 ⟨v296, rfl, ho0, hb⟩
 refine ⟨_, rfl, ?_⟩
 have n0_ := am (Kd.R_lower ho0 (below_size (by repeat (first | (with_reducible first | exact HB.out | apply bal | apply bdn | apply bd1 | refine bst ?_ GE293.out | refine bst ?_ GE294.out) | exact HB.out))))
 have n1_ := am (blk_below (g := gb293) (o := .cells #[.bool a0_0, .slice A0_1 l0_1.length c0_1, .slice A0_2 l0_2.length c0_2, .slice A0_3 l0_3.length c0_3, .bool a0_4, .bool a0_5, .int .i64 a0_6, .bool a0_7] 24 (0, 0)) (by (with_reducible repeat (first | refine kdn ?_ _ | refine kdr ?_ | refine kal ?_ _)); exact BK293.out) hb)
 have n2_ := am (blk_below (g := gb294) (o := .cells #[.bool false, .slice none 0 0, .slice none 0 0, .slice none 0 0, .bool false, .bool false, .int .i64 0, .bool false] 31 (0, 0)) (by (with_reducible repeat (first | refine kdn ?_ _ | refine kdr ?_ | refine kal ?_ _)); exact BK294.out) hb)
 have n3_ := am (below_step (by repeat (first | (with_reducible first | exact HB.out | apply bal | apply bdn | apply bd1 | refine bst ?_ GE293.out | refine bst ?_ GE294.out) | exact HB.out)) hb)
 clear BK293
 clear BK294
 clear HB
 have HO297 := n0_
 have BK293 := n1_
 have BK294 := n2_
 have HB := n3_
 clear n0_ n1_ n2_ n3_
 (try clear hb)
 (try clear hb2)
 (try clear hk)
 (try clear hi)
 (try clear ho0)
 refine hK.out _ _ ⟨(bcl BK293.out 0).trans rfl, (bcl BK293.out 1).trans rfl, (bcl BK293.out 2).trans rfl, (bcl BK293.out 3).trans rfl, (bcl BK293.out 4).trans rfl, (bcl BK293.out 5).trans rfl, (bcl BK293.out 6).trans rfl, (bcl BK293.out 7).trans rfl⟩ (fun hHeld => ?_)
 clear hK K
 refine norm_ (a' := ?_) ?_ ?_
 rotate_left
 ·show Act.put _ (some 7) _ = _
  simp only [Act.put, sb1, sb2, sb3, i64_w, i32_w]
  rfl
 refine one_ (i := 7) (N := some 10) #[true, true, true, true, true, true, true, true, true, true, false, true, true, true, true, true, true, true, true, false, false] rfl rfl (one_of HT_.out (by kernel_rfl)) (by decide) (fun K hK => ?_)
 refine goes_ Tryd.func29 (by kernel_rfl) rfl #[.slice A0_2 l0_2.length c0_2] (by rfl) rfl rfl (by (try simp only [List.map_toArray, List.map_cons, List.map_nil]); first | done | rfl | (simp only [List.length_drop, List.length_take]; rfl)) ?_
 with_reducible refine (ranges_Of.calls _ _ l0_2 t298 _ ?side1 ?side2 A3.out).mono ?_
 (case side1 => repeat (first | exact (Kd.C_below HR0_2.out HB.out) | (with_reducible refine Kd.C_alloc ?_ _) | (with_reducible refine Kd.C_drewN ?_ _) | (with_reducible refine Kd.C_drew ?_)))
 (case side2 => exact HC0_2.out)
 rintro e w9 ⟨v299, rfl, ho0, hb⟩
 refine ⟨_, rfl, ?_⟩
 have n0_ := am (Kd.R_elder' (by (with_reducible repeat (first | apply Kd.R_alloc | apply Kd.R_drewN | apply Kd.R_drew)); exact HO297.out) (Kd.R_base ho0) hb)
 have n1_ := am (Kd.R_lower (Kd.R_new' ho0 (Kd.R_lt (by (with_reducible repeat (first | apply Kd.R_alloc | apply Kd.R_drewN | apply Kd.R_drew)); exact HO297.out))) (below_size (by repeat (first | (with_reducible first | exact HB.out | apply bal | apply bdn | apply bd1 | refine bst ?_ GE293.out | refine bst ?_ GE294.out) | exact HB.out))))
 have n2_ := am (blk_below (g := gb293) (o := .cells #[.bool a0_0, .slice A0_1 l0_1.length c0_1, .slice A0_2 l0_2.length c0_2, .slice A0_3 l0_3.length c0_3, .bool a0_4, .bool a0_5, .int .i64 a0_6, .bool a0_7] 24 (0, 0)) (by (with_reducible repeat (first | refine kdn ?_ _ | refine kdr ?_ | refine kal ?_ _)); exact BK293.out) hb)
 have n3_ := am (blk_below (g := gb294) (o := .cells #[.bool false, .slice none 0 0, .slice none 0 0, .slice none 0 0, .bool false, .bool false, .int .i64 0, .bool false] 31 (0, 0)) (by (with_reducible repeat (first | refine kdn ?_ _ | refine kdr ?_ | refine kal ?_ _)); exact BK294.out) hb)
 have n4_ := am (below_step (by repeat (first | (with_reducible first | exact HB.out | apply bal | apply bdn | apply bd1 | refine bst ?_ GE293.out | refine bst ?_ GE294.out) | exact HB.out)) hb)
 clear HO297
 clear BK293
 clear BK294
 clear HB
 have HO297 := n0_
 have HO300 := n1_
 have BK293 := n2_
 have BK294 := n3_
 have HB := n4_
 clear n0_ n1_ n2_ n3_ n4_
 (try clear hb)
 (try clear hb2)
 (try clear hk)
 (try clear hi)
 (try clear ho0)
 refine hK.out _ _ ⟨(bcl BK293.out 0).trans rfl, (bcl BK293.out 1).trans rfl, (bcl BK293.out 2).trans rfl, (bcl BK293.out 3).trans rfl, (bcl BK293.out 4).trans rfl, (bcl BK293.out 5).trans rfl, (bcl BK293.out 6).trans rfl, (bcl BK293.out 7).trans rfl⟩ (fun hHeld => ?_)
 clear hK K
 refine norm_ (a' := ?_) ?_ ?_
 rotate_left
 ·show Act.put _ (some 10) _ = _
  simp only [Act.put, sb1, sb2, sb3, i64_w, i32_w]
  rfl
 refine one_ (i := 10) (N := some 13) #[true, true, true, true, true, true, true, true, true, true, true, true, true, true, true, true, true, true, true, false, false] rfl rfl (one_of HT_.out (by kernel_rfl)) (by decide) (fun K hK => ?_)
 refine goes_ Tryd.func29 (by kernel_rfl) rfl #[.slice A0_3 l0_3.length c0_3] (by rfl) rfl rfl (by (try simp only [List.map_toArray, List.map_cons, List.map_nil]); first | done | rfl | (simp only [List.length_drop, List.length_take]; rfl)) ?_
 with_reducible refine (ranges_Of.calls _ _ l0_3 t301 _ ?side1 ?side2 A4.out).mono ?_
 (case side1 => repeat (first | exact (Kd.C_below HR0_3.out HB.out) | (with_reducible refine Kd.C_alloc ?_ _) | (with_reducible refine Kd.C_drewN ?_ _) | (with_reducible refine Kd.C_drew ?_)))
 (case side2 => exact HC0_3.out)
 rintro e w10 ⟨v302, rfl, ho0, hb⟩
 refine ⟨_, rfl, ?_⟩
 have n0_ := am (Kd.R_elder' (by (with_reducible repeat (first | apply Kd.R_alloc | apply Kd.R_drewN | apply Kd.R_drew)); exact HO297.out) (Kd.R_base ho0) hb)
 have n1_ := am (Kd.R_elder' (by (with_reducible repeat (first | apply Kd.R_alloc | apply Kd.R_drewN | apply Kd.R_drew)); exact HO300.out) (Kd.R_base ho0) hb)
 have n2_ := am (Kd.R_lower (Kd.R_new' (Kd.R_new' ho0 (Kd.R_lt (by (with_reducible repeat (first | apply Kd.R_alloc | apply Kd.R_drewN | apply Kd.R_drew)); exact HO297.out))) (Kd.R_lt (by (with_reducible repeat (first | apply Kd.R_alloc | apply Kd.R_drewN | apply Kd.R_drew)); exact HO300.out))) (below_size (by repeat (first | (with_reducible first | exact HB.out | apply bal | apply bdn | apply bd1 | refine bst ?_ GE293.out | refine bst ?_ GE294.out) | exact HB.out))))
 have n3_ := am (blk_below (g := gb293) (o := .cells #[.bool a0_0, .slice A0_1 l0_1.length c0_1, .slice A0_2 l0_2.length c0_2, .slice A0_3 l0_3.length c0_3, .bool a0_4, .bool a0_5, .int .i64 a0_6, .bool a0_7] 24 (0, 0)) (by (with_reducible repeat (first | refine kdn ?_ _ | refine kdr ?_ | refine kal ?_ _)); exact BK293.out) hb)
 have n4_ := am (blk_below (g := gb294) (o := .cells #[.bool false, .slice none 0 0, .slice none 0 0, .slice none 0 0, .bool false, .bool false, .int .i64 0, .bool false] 31 (0, 0)) (by (with_reducible repeat (first | refine kdn ?_ _ | refine kdr ?_ | refine kal ?_ _)); exact BK294.out) hb)
 have n5_ := am (below_step (by repeat (first | (with_reducible first | exact HB.out | apply bal | apply bdn | apply bd1 | refine bst ?_ GE293.out | refine bst ?_ GE294.out) | exact HB.out)) hb)
 clear HO297
 clear HO300
 clear BK293
 clear BK294
 clear HB
 have HO297 := n0_
 have HO300 := n1_
 have HO303 := n2_
 have BK293 := n3_
 have BK294 := n4_
 have HB := n5_
 clear n0_ n1_ n2_ n3_ n4_ n5_
 (try clear hb)
 (try clear hb2)
 (try clear hk)
 (try clear hi)
 (try clear ho0)
 obtain ⟨Ao11, co11, eo11⟩ := Kd.R_slice HO303.out
 (first | subst eo11 | (injection eo11 with f1_ f2_ f3_; have f4_ := f1_.symm; have f5_ := f3_.symm; clear f1_ f2_ f3_; subst f4_; subst f5_))
 obtain ⟨Ao12, co12, eo12⟩ := Kd.R_slice HO300.out
 (first | subst eo12 | (injection eo12 with f1_ f2_ f3_; have f4_ := f1_.symm; have f5_ := f3_.symm; clear f1_ f2_ f3_; subst f4_; subst f5_))
 obtain ⟨Ao13, co13, eo13⟩ := Kd.R_slice HO297.out
 (first | subst eo13 | (injection eo13 with f1_ f2_ f3_; have f4_ := f1_.symm; have f5_ := f3_.symm; clear f1_ f2_ f3_; subst f4_; subst f5_))
 refine hK.out _ _ ⟨(bcl BK293.out 0).trans rfl, (bcl BK293.out 1).trans rfl, (bcl BK293.out 2).trans rfl, (bcl BK293.out 3).trans rfl, (bcl BK293.out 4).trans rfl, (bcl BK293.out 5).trans rfl, (bcl BK293.out 6).trans rfl, (bcl BK293.out 7).trans rfl⟩ (fun hHeld => ?_)
 clear hK K
 refine norm_ (a' := ?_) ?_ ?_
 rotate_left
 ·show Act.put _ (some 13) _ = _
  simp only [Act.put, sb1, sb2, sb3, i64_w, i32_w]
  rfl
 refine pure_ (i := 19) (N := some 22) (v := ?_) (a' := ?_) #[true, true, true, true, true, true, true, true, true, true, true, true, true, true, true, true, true, true, true, true, false] rfl rfl (any_of HT_.out (by kernel_rfl)) (fun _ _ _ h => h) (Or.inl ⟨by rfl, ?_⟩) ?_ ?_
 rotate_left
 ·intro w'
  go_simp
  with_reducible rfl
 rotate_left
 ·simp only [Act.put, sb1, sb2, sb3, i64_w, i32_w]
  rfl
 refine one_ (i := 20) (N := none) #[true, true, true, true, true, true, true, true, true, true, true, true, true, true, true, true, true, true, true, true, true] rfl rfl (one_of HT_.out (by kernel_rfl)) (by decide) (fun K hK => ?_)
 have hs14 : w10.cell? ⟨gb294, 0, none⟩ = some (.bool false) := (bcl BK294.out 0).trans rfl
 have hfs14 := bfz BK294.out 0
 have hns14_0 := NB293_294.out
 have hms14_0 := NB294_293.out
 have hs15 : w10.cell? ⟨gb294, 1, none⟩ = some (.slice none 0 0) := (bcl BK294.out 1).trans rfl
 have hfs15 := bfz BK294.out 1
 have hns15_0 := NB293_294.out
 have hms15_0 := NB294_293.out
 have hs16 : w10.cell? ⟨gb294, 2, none⟩ = some (.slice none 0 0) := (bcl BK294.out 2).trans rfl
 have hfs16 := bfz BK294.out 2
 have hns16_0 := NB293_294.out
 have hms16_0 := NB294_293.out
 have hs17 : w10.cell? ⟨gb294, 3, none⟩ = some (.slice none 0 0) := (bcl BK294.out 3).trans rfl
 have hfs17 := bfz BK294.out 3
 have hns17_0 := NB293_294.out
 have hms17_0 := NB294_293.out
 have hs18 : w10.cell? ⟨gb294, 4, none⟩ = some (.bool false) := (bcl BK294.out 4).trans rfl
 have hfs18 := bfz BK294.out 4
 have hns18_0 := NB293_294.out
 have hms18_0 := NB294_293.out
 have hs19 : w10.cell? ⟨gb294, 5, none⟩ = some (.bool false) := (bcl BK294.out 5).trans rfl
 have hfs19 := bfz BK294.out 5
 have hns19_0 := NB293_294.out
 have hms19_0 := NB294_293.out
 have hs20 : w10.cell? ⟨gb294, 6, none⟩ = some (.int .i64 0) := (bcl BK294.out 6).trans rfl
 have hfs20 := bfz BK294.out 6
 have hns20_0 := NB293_294.out
 have hms20_0 := NB294_293.out
 have hs21 : w10.cell? ⟨gb294, 7, none⟩ = some (.bool false) := (bcl BK294.out 7).trans rfl
 have hfs21 := bfz BK294.out 7
 have hns21_0 := NB293_294.out
 have hms21_0 := NB294_293.out
 refine skip_ (w1 := ?_) (by rfl) rfl ?_ ?_
 rotate_left
 ·go_simp
  rfl
 refine hK.out _ _ ⟨((cell_far (p := ⟨gb294, _, none⟩) NB293_294.out _).trans (((cell_far (p := ⟨gb294, _, none⟩) NB293_294.out _).trans (((cell_far (p := ⟨gb294, _, none⟩) NB293_294.out _).trans (((cell_far (p := ⟨gb294, _, none⟩) NB293_294.out _).trans (((cell_far (p := ⟨gb294, _, none⟩) NB293_294.out _).trans (((cell_far (p := ⟨gb294, _, none⟩) NB293_294.out _).trans (((cell_far (p := ⟨gb294, _, none⟩) NB293_294.out _).trans (((cell_far (p := ⟨gb294, _, none⟩) NB293_294.out _).trans (hHeld.1)))))))))))))))), ((cell_far (p := ⟨gb294, _, none⟩) NB293_294.out _).trans (((cell_far (p := ⟨gb294, _, none⟩) NB293_294.out _).trans (((cell_far (p := ⟨gb294, _, none⟩) NB293_294.out _).trans (((cell_far (p := ⟨gb294, _, none⟩) NB293_294.out _).trans (((cell_far (p := ⟨gb294, _, none⟩) NB293_294.out _).trans (((cell_far (p := ⟨gb294, _, none⟩) NB293_294.out _).trans (((cell_far (p := ⟨gb294, _, none⟩) NB293_294.out _).trans (((cell_far (p := ⟨gb294, _, none⟩) NB293_294.out _).trans (hHeld.2.1)))))))))))))))), ((cell_far (p := ⟨gb294, _, none⟩) NB293_294.out _).trans (((cell_far (p := ⟨gb294, _, none⟩) NB293_294.out _).trans (((cell_far (p := ⟨gb294, _, none⟩) NB293_294.out _).trans (((cell_far (p := ⟨gb294, _, none⟩) NB293_294.out _).trans (((cell_far (p := ⟨gb294, _, none⟩) NB293_294.out _).trans (((cell_far (p := ⟨gb294, _, none⟩) NB293_294.out _).trans (((cell_far (p := ⟨gb294, _, none⟩) NB293_294.out _).trans (((cell_far (p := ⟨gb294, _, none⟩) NB293_294.out _).trans (hHeld.2.2.1)))))))))))))))), ((cell_far (p := ⟨gb294, _, none⟩) NB293_294.out _).trans (((cell_far (p := ⟨gb294, _, none⟩) NB293_294.out _).trans (((cell_far (p := ⟨gb294, _, none⟩) NB293_294.out _).trans (((cell_far (p := ⟨gb294, _, none⟩) NB293_294.out _).trans (((cell_far (p := ⟨gb294, _, none⟩) NB293_294.out _).trans (((cell_far (p := ⟨gb294, _, none⟩) NB293_294.out _).trans (((cell_far (p := ⟨gb294, _, none⟩) NB293_294.out _).trans (((cell_far (p := ⟨gb294, _, none⟩) NB293_294.out _).trans (hHeld.2.2.2.1)))))))))))))))), ((cell_far (p := ⟨gb294, _, none⟩) NB293_294.out _).trans (((cell_far (p := ⟨gb294, _, none⟩) NB293_294.out _).trans (((cell_far (p := ⟨gb294, _, none⟩) NB293_294.out _).trans (((cell_far (p := ⟨gb294, _, none⟩) NB293_294.out _).trans (((cell_far (p := ⟨gb294, _, none⟩) NB293_294.out _).trans (((cell_far (p := ⟨gb294, _, none⟩) NB293_294.out _).trans (((cell_far (p := ⟨gb294, _, none⟩) NB293_294.out _).trans (((cell_far (p := ⟨gb294, _, none⟩) NB293_294.out _).trans (hHeld.2.2.2.2.1)))))))))))))))), ((cell_far (p := ⟨gb294, _, none⟩) NB293_294.out _).trans (((cell_far (p := ⟨gb294, _, none⟩) NB293_294.out _).trans (((cell_far (p := ⟨gb294, _, none⟩) NB293_294.out _).trans (((cell_far (p := ⟨gb294, _, none⟩) NB293_294.out _).trans (((cell_far (p := ⟨gb294, _, none⟩) NB293_294.out _).trans (((cell_far (p := ⟨gb294, _, none⟩) NB293_294.out _).trans (((cell_far (p := ⟨gb294, _, none⟩) NB293_294.out _).trans (((cell_far (p := ⟨gb294, _, none⟩) NB293_294.out _).trans (hHeld.2.2.2.2.2.1)))))))))))))))), ((cell_far (p := ⟨gb294, _, none⟩) NB293_294.out _).trans (((cell_far (p := ⟨gb294, _, none⟩) NB293_294.out _).trans (((cell_far (p := ⟨gb294, _, none⟩) NB293_294.out _).trans (((cell_far (p := ⟨gb294, _, none⟩) NB293_294.out _).trans (((cell_far (p := ⟨gb294, _, none⟩) NB293_294.out _).trans (((cell_far (p := ⟨gb294, _, none⟩) NB293_294.out _).trans (((cell_far (p := ⟨gb294, _, none⟩) NB293_294.out _).trans (((cell_far (p := ⟨gb294, _, none⟩) NB293_294.out _).trans (hHeld.2.2.2.2.2.2.1)))))))))))))))), ((cell_far (p := ⟨gb294, _, none⟩) NB293_294.out _).trans (((cell_far (p := ⟨gb294, _, none⟩) NB293_294.out _).trans (((cell_far (p := ⟨gb294, _, none⟩) NB293_294.out _).trans (((cell_far (p := ⟨gb294, _, none⟩) NB293_294.out _).trans (((cell_far (p := ⟨gb294, _, none⟩) NB293_294.out _).trans (((cell_far (p := ⟨gb294, _, none⟩) NB293_294.out _).trans (((cell_far (p := ⟨gb294, _, none⟩) NB293_294.out _).trans (((cell_far (p := ⟨gb294, _, none⟩) NB293_294.out _).trans (hHeld.2.2.2.2.2.2.2))))))))))))))))⟩ (fun hHeld => ?_)
 clear hK K
 refine done_ (done_of HT_.out (by kernel_rfl)) ?_
 try go_wp2
 refine bodyPost_ret (results_cell_row rfl _ _ gb294 31 #[.bool a0_0, .slice Ao13 t295.length co13, .slice Ao12 t298.length co12, .slice Ao11 t301.length co11, .bool a0_4, .bool a0_5, .int .i64 a0_6, .bool a0_7] (0, 0) _ rfl (by (with_reducible repeat (first | refine kdn ?_ _ | refine kdr ?_ | refine kal ?_ _)); refine blk_put (cs := #[.bool a0_0, .slice Ao13 t295.length co13, .slice Ao12 t298.length co12, .slice Ao11 t301.length co11, .bool a0_4, .bool a0_5, .int .i64 a0_6, .bool false]) ?_ 7 _ rfl; (with_reducible repeat (first | refine kdn ?_ _ | refine kdr ?_ | refine kal ?_ _)); refine blk_put (cs := #[.bool a0_0, .slice Ao13 t295.length co13, .slice Ao12 t298.length co12, .slice Ao11 t301.length co11, .bool a0_4, .bool a0_5, .int .i64 0, .bool false]) ?_ 6 _ rfl; (with_reducible repeat (first | refine kdn ?_ _ | refine kdr ?_ | refine kal ?_ _)); refine blk_put (cs := #[.bool a0_0, .slice Ao13 t295.length co13, .slice Ao12 t298.length co12, .slice Ao11 t301.length co11, .bool a0_4, .bool false, .int .i64 0, .bool false]) ?_ 5 _ rfl; (with_reducible repeat (first | refine kdn ?_ _ | refine kdr ?_ | refine kal ?_ _)); refine blk_put (cs := #[.bool a0_0, .slice Ao13 t295.length co13, .slice Ao12 t298.length co12, .slice Ao11 t301.length co11, .bool false, .bool false, .int .i64 0, .bool false]) ?_ 4 _ rfl; (with_reducible repeat (first | refine kdn ?_ _ | refine kdr ?_ | refine kal ?_ _)); refine blk_put (cs := #[.bool a0_0, .slice Ao13 t295.length co13, .slice Ao12 t298.length co12, .slice none 0 0, .bool false, .bool false, .int .i64 0, .bool false]) ?_ 3 _ rfl; (with_reducible repeat (first | refine kdn ?_ _ | refine kdr ?_ | refine kal ?_ _)); refine blk_put (cs := #[.bool a0_0, .slice Ao13 t295.length co13, .slice none 0 0, .slice none 0 0, .bool false, .bool false, .int .i64 0, .bool false]) ?_ 2 _ rfl; (with_reducible repeat (first | refine kdn ?_ _ | refine kdr ?_ | refine kal ?_ _)); refine blk_put (cs := #[.bool a0_0, .slice none 0 0, .slice none 0 0, .slice none 0 0, .bool false, .bool false, .int .i64 0, .bool false]) ?_ 1 _ rfl; (with_reducible repeat (first | refine kdn ?_ _ | refine kdr ?_ | refine kal ?_ _)); refine blk_put (cs := #[.bool false, .slice none 0 0, .slice none 0 0, .slice none 0 0, .bool false, .bool false, .int .i64 0, .bool false]) ?_ 0 _ rfl; (with_reducible repeat (first | refine kdn ?_ _ | refine kdr ?_ | refine kal ?_ _)); exact BK294.out) Tryd.underlying31 rfl (by kernel_rfl)) rfl ?_
 exact ⟨_, _, _, by first | rfl | (simp [errW_none, errW_some] <;> rfl) | (simp [*, errW_none, errW_some] <;> rfl), by (with_reducible repeat (first | apply Kd.R_alloc | apply Kd.R_drewN | apply Kd.R_drew)); exact Kd.R_mono (Kd.R_far (p := ⟨gb294, 7, none⟩) (Kd.R_far (p := ⟨gb294, 6, none⟩) (Kd.R_far (p := ⟨gb294, 5, none⟩) (Kd.R_far (p := ⟨gb294, 4, none⟩) (Kd.R_far (p := ⟨gb294, 3, none⟩) (Kd.R_far (p := ⟨gb294, 2, none⟩) (Kd.R_far (p := ⟨gb294, 1, none⟩) (Kd.R_far (p := ⟨gb294, 0, none⟩) (Kd.R_types HO297.out BK294.out (by decide)) (fun _ hk => hk.2) (.bool a0_0)) (fun _ hk => hk.2) (.slice Ao13 t295.length co13)) (fun _ hk => hk.2) (.slice Ao12 t298.length co12)) (fun _ hk => hk.2) (.slice Ao11 t301.length co11)) (fun _ hk => hk.2) (.bool a0_4)) (fun _ hk => hk.2) (.bool a0_5)) (fun _ hk => hk.2) (.int .i64 a0_6)) (fun _ hk => hk.2) (.bool a0_7)) (fun _ hk => ⟨hk.1.1.2, hk.1.2⟩), by (with_reducible repeat (first | apply Kd.R_alloc | apply Kd.R_drewN | apply Kd.R_drew)); exact Kd.R_mono (Kd.R_far (p := ⟨gb294, 7, none⟩) (Kd.R_far (p := ⟨gb294, 6, none⟩) (Kd.R_far (p := ⟨gb294, 5, none⟩) (Kd.R_far (p := ⟨gb294, 4, none⟩) (Kd.R_far (p := ⟨gb294, 3, none⟩) (Kd.R_far (p := ⟨gb294, 2, none⟩) (Kd.R_far (p := ⟨gb294, 1, none⟩) (Kd.R_far (p := ⟨gb294, 0, none⟩) (Kd.R_types HO300.out BK294.out (by decide)) (fun _ hk => hk.2) (.bool a0_0)) (fun _ hk => hk.2) (.slice Ao13 t295.length co13)) (fun _ hk => hk.2) (.slice Ao12 t298.length co12)) (fun _ hk => hk.2) (.slice Ao11 t301.length co11)) (fun _ hk => hk.2) (.bool a0_4)) (fun _ hk => hk.2) (.bool a0_5)) (fun _ hk => hk.2) (.int .i64 a0_6)) (fun _ hk => hk.2) (.bool a0_7)) (fun _ hk => ⟨hk.1.1.2, hk.1.2⟩), by (with_reducible repeat (first | apply Kd.R_alloc | apply Kd.R_drewN | apply Kd.R_drew)); exact Kd.R_mono (Kd.R_far (p := ⟨gb294, 7, none⟩) (Kd.R_far (p := ⟨gb294, 6, none⟩) (Kd.R_far (p := ⟨gb294, 5, none⟩) (Kd.R_far (p := ⟨gb294, 4, none⟩) (Kd.R_far (p := ⟨gb294, 3, none⟩) (Kd.R_far (p := ⟨gb294, 2, none⟩) (Kd.R_far (p := ⟨gb294, 1, none⟩) (Kd.R_far (p := ⟨gb294, 0, none⟩) (Kd.R_types HO303.out BK294.out (by decide)) (fun _ hk => hk.2) (.bool a0_0)) (fun _ hk => hk.2) (.slice Ao13 t295.length co13)) (fun _ hk => hk.2) (.slice Ao12 t298.length co12)) (fun _ hk => hk.2) (.slice Ao11 t301.length co11)) (fun _ hk => hk.2) (.bool a0_4)) (fun _ hk => hk.2) (.bool a0_5)) (fun _ hk => hk.2) (.int .i64 a0_6)) (fun _ hk => hk.2) (.bool a0_7)) (fun _ hk => ⟨hk.1.1.2, hk.1.2⟩), by repeat (first | (with_reducible first | exact HB.out | apply bal | apply bdn | apply bd1 | refine bst ?_ GE293.out | refine bst ?_ GE294.out) | exact HB.out)⟩

/-! ### w37_spans: function 33 -/
def w37_spans.f (a0 : Int) (a1 : Int) : Option ((List (S42))) := some (([(⟨a0, a1⟩ : S42)] : List (S42)))
set_option maxHeartbeats 8000000 in
set_option maxRecDepth 100000 in
theorem w37_spans.calls (a0 : Int) (a1 : Int) (r : List (S42)) (w : World) (h : w37_spans.f a0 a1 = some r) :
  Calls Tryd.prog 33 #[.int .i64 a0, .int .i64 a1] w fun e w' => ∃ v0_ : Value, e = .returned (v0_) ∧ Kd.R k42 42 w' w.heap.size (fun _ => True) v0_ r ∧ Below w.heap.size w w' := by
 have hu42 := Tryd.underlying42
 have HB := am (Below.refl w.heap.size w)
 have H : (some (([(⟨a0, a1⟩ : S42)] : List (S42)))) = some r := h
 clear h
 obtain ⟨y304, hy304⟩ : ∃ y_ : List (S42), y_ = (([(⟨a0, a1⟩ : S42)] : List (S42))) := ⟨_, rfl⟩
 replace H : (some y304) = some r := by first | (rw [hy304]; with_reducible exact H) | (have H2_ := (Option.bind_some _ _).symm.trans H; rw [hy304]; with_reducible exact H2_) | (have H2_ := (Option.bind_some _ _).symm.trans H; with_reducible exact H2_) | with_reducible exact H | (rw [hy304]; exact H) | exact H
 have Ny304 := am hy304
 clear hy304
 obtain rfl := Option.some.inj H
 go_enter Tryd.func33, Tryd.ntmps33
 go_wp2_with (first | ((with_reducible refine gate_dst (N := 8) rfl ?_); refine Kd.R_lit k42 _ 42 ?hg (N := 8) ?hd (xs := ([(⟨a0, a1⟩ : S42)] : List (S42))) (inner := [.int .i64 a0, .int .i64 a1]) (ok := fun _ => True) (okp := fun _ => True) ?hr ?hp (fun _ hk => hk) trivial (Below.refl _ _) (Nat.le_refl _) (by simp) ?_; (case hd => rfl); (case hg => rfl); (case hr => first | (go_simp; done) | (go_simp; rfl)); (case hp => exact (Reps.c2 (show Kd.M k42 _ _ _ (⟨a0, a1⟩ : S42) [.int .i64 a0, .int .i64 a1] from (k42_mkM _ _ _ (⟨a0, a1⟩ : S42) )) (Reps.none _ _))); intro v305 w3 ho4 hb hg_ hnew_; clear hg_ hnew_; (first | rw [← Ny304.out] at ho4 | (simp only [Int.reduceToNat] at ho4; rw [← Ny304.out] at ho4)); have n0_ := am (Kd.R_lower ho4 (below_size (by repeat (first | (with_reducible first | exact HB.out | apply bal | apply bdn | apply bd1) | exact HB.out)))); have n1_ := am (below_step (by repeat (first | (with_reducible first | exact HB.out | apply bal | apply bdn | apply bd1) | exact HB.out)) hb); clear HB; have HO306 := n0_; have HB := n1_; clear n0_ n1_; clear hb ho4))
 go_ret
 exact ⟨_, by first | rfl | (simp [errW_none, errW_some] <;> rfl) | (simp [*, errW_none, errW_some] <;> rfl), by (with_reducible repeat (first | apply Kd.R_alloc | apply Kd.R_drewN | apply Kd.R_drew)); exact HO306.out, by repeat (first | (with_reducible first | exact HB.out | apply bal | apply bdn | apply bd1) | exact HB.out)⟩

end Go.Proofs.YtbgojgoejlhgeaaDoor.Pr
