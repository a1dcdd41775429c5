-- PRINTED by print.py (a twelfth state) out of the translation, parted. Not trusted: Lean checks it.
import Derived.Test.YtbgojgoejlhgeaaDoorG0
namespace Go.Proofs.YtbgojgoejlhgeaaDoor.Pr
open Go.RowKit Go.Proofs.YtbgojgoejlhgeaaDoorW.PrintWords Go.Proofs.YtbgojgoejlhgeaaDoorW.PrintLast Go.Proofs.YtbgojgoejlhgeaaDoorW.PrintMore
attribute [local go_sem] max2_int min2_int max_two min_two max_three min_three max_four min_four
set_option linter.unusedVariables false
set_option linter.unusedSimpArgs false

/-! ### ranges_Set_Less: function 30 -/
mutual
def ranges_Set_Less.l0 : Nat → List (S42) → Int → List (S42) → Int → Int → List (S42) → Option ((List (S42)))
 | 0, _, _, _, _, _, _ => none
 | k + 1, x5, x6, x11, x12, x13, x103000 => if x13 < x12 then (if 0 ≤ x13 then (if x13 < (x11.length : Int) then (ranges_Set_Less.l1 k x5 x6 x11 x12 x13 x103000 ((rd_T42 x11 x13).f0) ((rd_T42 x11 x13).f1)) else (none)) else (none)) else (some x5)
def ranges_Set_Less.j2 : Nat → List (S42) → Int → List (S42) → Int → Int → List (S42) → Int → Int → Option ((List (S42)))
 | 0, _, _, _, _, _, _, _, _ => none
 | k + 1, x5, x6, x11, x12, x13, x103000, x106000, x106001 => ranges_Set_Less.l2 k x5 x6 x6 x11 x12 x13 x103000 x106000 x106001
def ranges_Set_Less.l2 : Nat → List (S42) → Int → Int → List (S42) → Int → Int → List (S42) → Int → Int → Option ((List (S42)))
 | 0, _, _, _, _, _, _, _, _, _ => none
 | k + 1, x5, x6, x9, x11, x12, x13, x103000, x106000, x106001 => if x9 < (x103000.length : Int) then (if 0 ≤ x9 then (ranges_Set_Less.j4 k x5 x6 x9 x11 x12 x13 (decide (((rd_T42 x103000 x9).f0) < x106001)) x103000 x106000 x106001) else (none)) else (ranges_Set_Less.j4 k x5 x6 x9 x11 x12 x13 false x103000 x106000 x106001)
def ranges_Set_Less.j4 : Nat → List (S42) → Int → Int → List (S42) → Int → Int → Bool → List (S42) → Int → Int → Option ((List (S42)))
 | 0, _, _, _, _, _, _, _, _, _, _ => none
 | k + 1, x5, x6, x9, x11, x12, x13, x51, x103000, x106000, x106001 => if x51 = true then (if 0 ≤ x9 then (if x9 < (x103000.length : Int) then (if ((rd_T42 x103000 x9).f0) > x106000 then (if x5.length < 8796093022208 then (ranges_Set_Less.l2 k (x5 ++ [(⟨x106000, (rd_T42 x103000 x9).f0⟩ : S42)]) x6 (wrap64 (x9 + 1)) x11 x12 x13 x103000 (mn ((rd_T42 x103000 x9).f1) x106001) x106001) else (none)) else (ranges_Set_Less.l2 k x5 x6 (wrap64 (x9 + 1)) x11 x12 x13 x103000 (mn ((rd_T42 x103000 x9).f1) x106001) x106001)) else (none)) else (none)) else (if x106000 < x106001 then (if x5.length < 8796093022208 then (ranges_Set_Less.l0 k (x5 ++ [(⟨x106000, x106001⟩ : S42)]) x6 x11 x12 (wrap64 (x13 + 1)) x103000) else (none)) else (ranges_Set_Less.l0 k x5 x6 x11 x12 (wrap64 (x13 + 1)) x103000))
def ranges_Set_Less.l1 : Nat → List (S42) → Int → List (S42) → Int → Int → List (S42) → Int → Int → Option ((List (S42)))
 | 0, _, _, _, _, _, _, _, _ => none
 | k + 1, x5, x6, x11, x12, x13, x103000, x106000, x106001 => if x6 < (x103000.length : Int) then (if 0 ≤ x6 then (if ((rd_T42 x103000 x6).f1) ≤ x106000 then (ranges_Set_Less.l1 k x5 (wrap64 (x6 + 1)) x11 x12 x13 x103000 x106000 x106001) else (ranges_Set_Less.j2 k x5 x6 x11 x12 x13 x103000 x106000 x106001)) else (none)) else (ranges_Set_Less.j2 k x5 x6 x11 x12 x13 x103000 x106000 x106001)
end
def ranges_Set_Less.f (k : Nat) (l0_0 : List (S42)) (l1_0 : List (S42)) : Option ((List (S42))) := ranges_Set_Less.l0 k ([] : List (S42)) 0 l0_0 (l0_0.length : Int) 0 l1_0
theorem ranges_Set_Less.mono_l : ∀ k, (∀ y0 y1 y2 y3 y4 y5, LeO (ranges_Set_Less.l0 k y0 y1 y2 y3 y4 y5) (ranges_Set_Less.l0 (k + 1) y0 y1 y2 y3 y4 y5)) ∧ (∀ y0 y1 y2 y3 y4 y5 y6 y7, LeO (ranges_Set_Less.j2 k y0 y1 y2 y3 y4 y5 y6 y7) (ranges_Set_Less.j2 (k + 1) y0 y1 y2 y3 y4 y5 y6 y7)) ∧ (∀ y0 y1 y2 y3 y4 y5 y6 y7 y8, LeO (ranges_Set_Less.l2 k y0 y1 y2 y3 y4 y5 y6 y7 y8) (ranges_Set_Less.l2 (k + 1) y0 y1 y2 y3 y4 y5 y6 y7 y8)) ∧ (∀ y0 y1 y2 y3 y4 y5 y6 y7 y8 y9, LeO (ranges_Set_Less.j4 k y0 y1 y2 y3 y4 y5 y6 y7 y8 y9) (ranges_Set_Less.j4 (k + 1) y0 y1 y2 y3 y4 y5 y6 y7 y8 y9)) ∧ (∀ y0 y1 y2 y3 y4 y5 y6 y7, LeO (ranges_Set_Less.l1 k y0 y1 y2 y3 y4 y5 y6 y7) (ranges_Set_Less.l1 (k + 1) y0 y1 y2 y3 y4 y5 y6 y7))
 | 0 => ⟨fun _ _ _ _ _ _ r h => by simp [ranges_Set_Less.l0] at h, fun _ _ _ _ _ _ _ _ r h => by simp [ranges_Set_Less.j2] at h, fun _ _ _ _ _ _ _ _ _ r h => by simp [ranges_Set_Less.l2] at h, fun _ _ _ _ _ _ _ _ _ _ r h => by simp [ranges_Set_Less.j4] at h, fun _ _ _ _ _ _ _ _ r h => by simp [ranges_Set_Less.l1] at h⟩
 | k + 1 => by
  obtain ⟨ih0, ih1, ih2, ih3, ih4⟩ := ranges_Set_Less.mono_l k
  refine ⟨?_, ?_, ?_, ?_, ?_⟩
  ·intro y0 y1 y2 y3 y4 y5
   unfold ranges_Set_Less.l0
   repeat' first
   | (with_reducible exact ih0 _ _ _ _ _ _)
   | (with_reducible exact ih1 _ _ _ _ _ _ _ _)
   | (with_reducible exact ih2 _ _ _ _ _ _ _ _ _)
   | (with_reducible exact ih3 _ _ _ _ _ _ _ _ _ _)
   | (with_reducible exact ih4 _ _ _ _ _ _ _ _)
   | (with_reducible exact LeO.refl _)
   | (with_reducible exact LeO.none _)
   | (with_reducible refine LeO.ite ?_ ?_)
   | (with_reducible refine LeO.bind ?_ (fun _ => ?_))
   | exact ih0 _ _ _ _ _ _
   | exact ih1 _ _ _ _ _ _ _ _
   | exact ih2 _ _ _ _ _ _ _ _ _
   | exact ih3 _ _ _ _ _ _ _ _ _ _
   | exact ih4 _ _ _ _ _ _ _ _
   | exact LeO.none _
   | refine LeO.ite ?_ ?_
   | refine LeO.bind ?_ (fun _ => ?_)
  ·intro y0 y1 y2 y3 y4 y5 y6 y7
   unfold ranges_Set_Less.j2
   repeat' first
   | (with_reducible exact ih0 _ _ _ _ _ _)
   | (with_reducible exact ih1 _ _ _ _ _ _ _ _)
   | (with_reducible exact ih2 _ _ _ _ _ _ _ _ _)
   | (with_reducible exact ih3 _ _ _ _ _ _ _ _ _ _)
   | (with_reducible exact ih4 _ _ _ _ _ _ _ _)
   | (with_reducible exact LeO.refl _)
   | (with_reducible exact LeO.none _)
   | (with_reducible refine LeO.ite ?_ ?_)
   | (with_reducible refine LeO.bind ?_ (fun _ => ?_))
   | exact ih0 _ _ _ _ _ _
   | exact ih1 _ _ _ _ _ _ _ _
   | exact ih2 _ _ _ _ _ _ _ _ _
   | exact ih3 _ _ _ _ _ _ _ _ _ _
   | exact ih4 _ _ _ _ _ _ _ _
   | exact LeO.none _
   | refine LeO.ite ?_ ?_
   | refine LeO.bind ?_ (fun _ => ?_)
  ·intro y0 y1 y2 y3 y4 y5 y6 y7 y8
   unfold ranges_Set_Less.l2
   repeat' first
   | (with_reducible exact ih0 _ _ _ _ _ _)
   | (with_reducible exact ih1 _ _ _ _ _ _ _ _)
   | (with_reducible exact ih2 _ _ _ _ _ _ _ _ _)
   | (with_reducible exact ih3 _ _ _ _ _ _ _ _ _ _)
   | (with_reducible exact ih4 _ _ _ _ _ _ _ _)
   | (with_reducible exact LeO.refl _)
   | (with_reducible exact LeO.none _)
   | (with_reducible refine LeO.ite ?_ ?_)
   | (with_reducible refine LeO.bind ?_ (fun _ => ?_))
   | exact ih0 _ _ _ _ _ _
   | exact ih1 _ _ _ _ _ _ _ _
   | exact ih2 _ _ _ _ _ _ _ _ _
   | exact ih3 _ _ _ _ _ _ _ _ _ _
   | exact ih4 _ _ _ _ _ _ _ _
   | exact LeO.none _
   | refine LeO.ite ?_ ?_
   | refine LeO.bind ?_ (fun _ => ?_)
  ·intro y0 y1 y2 y3 y4 y5 y6 y7 y8 y9
   unfold ranges_Set_Less.j4
   repeat' first
   | (with_reducible exact ih0 _ _ _ _ _ _)
   | (with_reducible exact ih1 _ _ _ _ _ _ _ _)
   | (with_reducible exact ih2 _ _ _ _ _ _ _ _ _)
   | (with_reducible exact ih3 _ _ _ _ _ _ _ _ _ _)
   | (with_reducible exact ih4 _ _ _ _ _ _ _ _)
   | (with_reducible exact LeO.refl _)
   | (with_reducible exact LeO.none _)
   | (with_reducible refine LeO.ite ?_ ?_)
   | (with_reducible refine LeO.bind ?_ (fun _ => ?_))
   | exact ih0 _ _ _ _ _ _
   | exact ih1 _ _ _ _ _ _ _ _
   | exact ih2 _ _ _ _ _ _ _ _ _
   | exact ih3 _ _ _ _ _ _ _ _ _ _
   | exact ih4 _ _ _ _ _ _ _ _
   | exact LeO.none _
   | refine LeO.ite ?_ ?_
   | refine LeO.bind ?_ (fun _ => ?_)
  ·intro y0 y1 y2 y3 y4 y5 y6 y7
   unfold ranges_Set_Less.l1
   repeat' first
   | (with_reducible exact ih0 _ _ _ _ _ _)
   | (with_reducible exact ih1 _ _ _ _ _ _ _ _)
   | (with_reducible exact ih2 _ _ _ _ _ _ _ _ _)
   | (with_reducible exact ih3 _ _ _ _ _ _ _ _ _ _)
   | (with_reducible exact ih4 _ _ _ _ _ _ _ _)
   | (with_reducible exact LeO.refl _)
   | (with_reducible exact LeO.none _)
   | (with_reducible refine LeO.ite ?_ ?_)
   | (with_reducible refine LeO.bind ?_ (fun _ => ?_))
   | exact ih0 _ _ _ _ _ _
   | exact ih1 _ _ _ _ _ _ _ _
   | exact ih2 _ _ _ _ _ _ _ _ _
   | exact ih3 _ _ _ _ _ _ _ _ _ _
   | exact ih4 _ _ _ _ _ _ _ _
   | exact LeO.none _
   | refine LeO.ite ?_ ?_
   | refine LeO.bind ?_ (fun _ => ?_)
theorem ranges_Set_Less.mono : ∀ a0 a1 k, LeO (ranges_Set_Less.f k a0 a1) (ranges_Set_Less.f (k + 1) a0 a1) := by
 intro a0 a1 k
 obtain ⟨ih0, ih1, ih2, ih3, ih4⟩ := ranges_Set_Less.mono_l k
 unfold ranges_Set_Less.f
 repeat' first
   | (with_reducible exact ih0 _ _ _ _ _ _)
   | (with_reducible exact ih1 _ _ _ _ _ _ _ _)
   | (with_reducible exact ih2 _ _ _ _ _ _ _ _ _)
   | (with_reducible exact ih3 _ _ _ _ _ _ _ _ _ _)
   | (with_reducible exact ih4 _ _ _ _ _ _ _ _)
   | (with_reducible exact LeO.refl _)
   | (with_reducible exact LeO.none _)
   | (with_reducible refine LeO.ite ?_ ?_)
   | (with_reducible refine LeO.bind ?_ (fun _ => ?_))
   | exact ih0 _ _ _ _ _ _
   | exact ih1 _ _ _ _ _ _ _ _
   | exact ih2 _ _ _ _ _ _ _ _ _
   | exact ih3 _ _ _ _ _ _ _ _ _ _
   | exact ih4 _ _ _ _ _ _ _ _
   | exact LeO.none _
   | refine LeO.ite ?_ ?_
   | refine LeO.bind ?_ (fun _ => ?_)
def ranges_Set_Less.T6 : Bool × List (List Nat × List Nat) := (true, [([], []), ([], []), ([1], [1]), ([2], [2]), ([0, 3], [0, 3]), ([4], [4]), ([5], [5]), ([6, 5], [5, 6]), ([5], [5]), ([7, 8, 5], [5, 7, 8]), ([9, 5], [5, 9]), ([10, 5], [5, 10]), ([5], [5]), ([12, 5], [5, 12]), ([11, 13, 5], [5, 11, 13]), ([5, 14], [5, 14])])
def ranges_Set_Less.B6 : List Nat := [0, 0, 2, 6, 15, 31, 63, 127, 63, 511, 1023, 2047, 63, 4159, 16383, 32767]
theorem ranges_Set_Less.tab6 : rtab .any (opsOf Tryd.f30 6) = ranges_Set_Less.T6 := by kernel_rfl
theorem ranges_Set_Less.bits6 : waitsOk ranges_Set_Less.T6.2 ranges_Set_Less.B6 = true := by kernel_rfl
def ranges_Set_Less.T9 : Bool × List (List Nat × List Nat) := (true, [([], []), ([], []), ([1], [1]), ([2], [2]), ([0, 3], [0, 3]), ([4], [4]), ([5], [5]), ([6, 5], [5, 6]), ([5], [5]), ([7, 8, 5], [5, 7, 8]), ([9, 5], [5, 9]), ([10, 5], [5, 10]), ([5], [5]), ([12, 5], [5, 12]), ([11, 13, 5], [5, 11, 13]), ([5, 14], [5, 14])])
def ranges_Set_Less.B9 : List Nat := [0, 0, 2, 6, 15, 31, 63, 127, 63, 511, 1023, 2047, 63, 4159, 16383, 32767]
theorem ranges_Set_Less.tab9 : rtab .any (opsOf Tryd.f30 9) = ranges_Set_Less.T9 := by kernel_rfl
theorem ranges_Set_Less.bits9 : waitsOk ranges_Set_Less.T9.2 ranges_Set_Less.B9 = true := by kernel_rfl
def ranges_Set_Less.T11 : Bool × List (List Nat × List Nat) := (true, [([], []), ([0], [0]), ([], []), ([1, 2], [1, 2]), ([3], [3]), ([4], [4]), ([], []), ([6], [6]), ([5, 7], [5, 7])])
def ranges_Set_Less.B11 : List Nat := [0, 1, 0, 7, 15, 31, 0, 64, 255]
theorem ranges_Set_Less.tab11 : rtab .any (opsOf Tryd.f30 11) = ranges_Set_Less.T11 := by kernel_rfl
theorem ranges_Set_Less.bits11 : waitsOk ranges_Set_Less.T11.2 ranges_Set_Less.B11 = true := by kernel_rfl
def ranges_Set_Less.T12 : Bool × List (List Nat × List Nat) := (true, [([], []), ([], []), ([1], [1]), ([], []), ([3], [3]), ([], []), ([4, 5], [4, 5]), ([6], [6]), ([7], [7]), ([2, 8], [2, 8]), ([9], [9]), ([0, 10], [0, 10]), ([11, 11, 0, 1, 2, 3, 4, 5, 6, 7, 8, 9, 10, 11], [0, 11])])
def ranges_Set_Less.B12 : List Nat := [0, 0, 2, 0, 8, 0, 56, 120, 248, 510, 1022, 2047, 4095]
theorem ranges_Set_Less.tab12 : rtab .any (opsOf Tryd.f30 12) = ranges_Set_Less.T12 := by kernel_rfl
theorem ranges_Set_Less.bits12 : waitsOk ranges_Set_Less.T12.2 ranges_Set_Less.B12 = true := by kernel_rfl
def ranges_Set_Less.T13 : Bool × List (List Nat × List Nat) := (true, [([], []), ([0], [0]), ([], []), ([1, 2], [1, 2]), ([3], [3]), ([4], [4]), ([], []), ([6], [6]), ([5, 7], [5, 7]), ([0, 1, 2, 3, 4, 5, 6, 7, 8], []), ([9, 8, 0, 1, 2, 3, 4, 5, 6, 7, 8], [8, 9])])
def ranges_Set_Less.B13 : List Nat := [0, 1, 0, 7, 15, 31, 0, 64, 255, 511, 1023]
theorem ranges_Set_Less.tab13 : rtab .any (opsOf Tryd.f30 13) = ranges_Set_Less.T13 := by kernel_rfl
theorem ranges_Set_Less.bits13 : waitsOk ranges_Set_Less.T13.2 ranges_Set_Less.B13 = true := by kernel_rfl
set_option maxHeartbeats 8000000 in
set_option maxRecDepth 100000 in
theorem ranges_Set_Less.calls (k : Nat) (A0_0 : Option Addr) (c0_0 : Nat) (l0_0 : List (S42)) (A1_0 : Option Addr) (c1_0 : Nat) (l1_0 : List (S42)) (r : List (S42)) (w : World) (hr0_0 : Kd.C k42 w A0_0 l0_0.length l0_0) (hc0_0 : l0_0.length ≤ c0_0) (hr1_0 : Kd.C k42 w A1_0 l1_0.length l1_0) (hc1_0 : l1_0.length ≤ c1_0) (h : ranges_Set_Less.f k l0_0 l1_0 = some r) :
  Calls Tryd.prog 30 #[.agg #[.slice A0_0 l0_0.length c0_0], .agg #[.slice A1_0 l1_0.length c1_0]] w fun e w' => ∃ v0_ : Value, e = .returned (.agg #[v0_]) ∧ Kd.R k42 42 w' w.heap.size (fun _ => True) v0_ r ∧ Below w.heap.size w w' := by
 have hu29 := Tryd.underlying29
 have hu42 := Tryd.underlying42
 have HR0_0 := am hr0_0
 have HC0_0 := am hc0_0
 clear hr0_0 hc0_0
 have HR1_0 := am hr1_0
 have HC1_0 := am hc1_0
 clear hr1_0 hc1_0
 have HB := am (Below.refl w.heap.size w)
 have H : (ranges_Set_Less.l0 k ([] : List (S42)) 0 l0_0 (l0_0.length : Int) 0 l1_0) = some r := h
 clear h
 have H' := am H
 clear H
 go_enter Tryd.func30, Tryd.ntmps30
 go_wp2_with (first | ((with_reducible refine gate_dst (N := 2) rfl ?_); refine box_event ?hg (N := 2) ?hd (cs := #[.slice A0_0 l0_0.length c0_0]) (t := 29) ?hr ?_; (case hd => rfl); (case hg => rfl); (case hr => first | (go_simp; done) | (go_simp; rfl)); intro gb101 hg w3 hbox hb; have n0_ := am (below_step (by repeat (first | (with_reducible first | exact HB.out | apply bal | apply bdn | apply bd1) | exact HB.out)) hb); have n1_ := am (hbox); have n2_ := am ((by rw [hg]; exact (below_size (by repeat (first | (with_reducible first | exact HB.out | apply bal | apply bdn | apply bd1) | exact HB.out))) : w.heap.size ≤ gb101)); have n3_ := am ((by rw [hg]; exact (below_size (by repeat (first | (with_reducible first | exact HB.out | apply bal | apply bdn | apply bd1) | exact HB.out))) : w.heap.size ≤ gb101)); clear HB; have HB := n0_; have BK101 := n1_; have GW101 := n2_; have GE101 := n3_; clear n0_ n1_ n2_ n3_; clear hb hbox hg) | ((with_reducible refine gate_dst (N := 3) rfl ?_); refine box_event ?hg (N := 3) ?hd (cs := #[.slice A1_0 l1_0.length c1_0]) (t := 29) ?hr ?_; (case hd => rfl); (case hg => rfl); (case hr => first | (go_simp; done) | (go_simp; rfl)); intro gb102 hg w4 hbox hb; have n0_ := am (blk_below (g := gb101) (o := .cells #[.slice A0_0 l0_0.length c0_0] 29 (0, 0)) (by (with_reducible repeat (first | refine kdn ?_ _ | refine kdr ?_ | refine kal ?_ _)); exact BK101.out) hb); have n1_ := am (below_step (by repeat (first | (with_reducible first | exact HB.out | apply bal | apply bdn | apply bd1 | refine bst ?_ GE101.out) | exact HB.out)) hb); have n2_ := am (hbox); have n3_ := am ((by rw [hg]; exact (below_size (by repeat (first | (with_reducible first | exact HB.out | apply bal | apply bdn | apply bd1 | refine bst ?_ GE101.out) | exact HB.out))) : w.heap.size ≤ gb102)); have n4_ := am ((by rw [hg]; exact (below_size (by repeat (first | (with_reducible first | exact HB.out | apply bal | apply bdn | apply bd1 | refine bst ?_ GE101.out) | exact HB.out))) : w.heap.size ≤ gb102)); have n5_ := am ((by rw [hg]; exact Nat.ne_of_lt (blk_lt (g := gb101) (o := .cells #[.slice A0_0 l0_0.length c0_0] 29 (0, 0)) (by (with_reducible repeat (first | refine kdn ?_ _ | refine kdr ?_ | refine kal ?_ _)); exact BK101.out)) : gb101 ≠ gb102)); have n6_ := am ((by rw [hg]; exact Nat.ne_of_gt (blk_lt (g := gb101) (o := .cells #[.slice A0_0 l0_0.length c0_0] 29 (0, 0)) (by (with_reducible repeat (first | refine kdn ?_ _ | refine kdr ?_ | refine kal ?_ _)); exact BK101.out)) : gb102 ≠ gb101)); clear BK101; clear HB; have BK101 := n0_; have HB := n1_; have BK102 := n2_; have GW102 := n3_; have GE102 := n4_; have NB101_102 := n5_; have NB102_101 := n6_; clear n0_ n1_ n2_ n3_ n4_ n5_ n6_; clear hb hbox hg) | ((with_reducible refine gate_dst (N := 4) rfl ?_); refine box_event ?hg (N := 4) ?hd (cs := #[.slice none 0 0]) (t := 29) ?hr ?_; (case hd => rfl); (case hg => rfl); (case hr => first | (go_simp; done) | (go_simp; rfl)); intro gb103 hg w5 hbox hb; have n0_ := am (blk_below (g := gb101) (o := .cells #[.slice A0_0 l0_0.length c0_0] 29 (0, 0)) (by (with_reducible repeat (first | refine kdn ?_ _ | refine kdr ?_ | refine kal ?_ _)); exact BK101.out) hb); have n1_ := am (blk_below (g := gb102) (o := .cells #[.slice A1_0 l1_0.length c1_0] 29 (0, 0)) (by (with_reducible repeat (first | refine kdn ?_ _ | refine kdr ?_ | refine kal ?_ _)); exact BK102.out) hb); have n2_ := am (below_step (by repeat (first | (with_reducible first | exact HB.out | apply bal | apply bdn | apply bd1 | refine bst ?_ GE101.out | refine bst ?_ GE102.out) | exact HB.out)) hb); have n3_ := am (hbox); have n4_ := am ((by rw [hg]; exact (below_size (by repeat (first | (with_reducible first | exact HB.out | apply bal | apply bdn | apply bd1 | refine bst ?_ GE101.out | refine bst ?_ GE102.out) | exact HB.out))) : w.heap.size ≤ gb103)); have n5_ := am ((by rw [hg]; exact (below_size (by repeat (first | (with_reducible first | exact HB.out | apply bal | apply bdn | apply bd1 | refine bst ?_ GE101.out | refine bst ?_ GE102.out) | exact HB.out))) : w.heap.size ≤ gb103)); have n6_ := am ((by rw [hg]; exact Nat.ne_of_lt (blk_lt (g := gb101) (o := .cells #[.slice A0_0 l0_0.length c0_0] 29 (0, 0)) (by (with_reducible repeat (first | refine kdn ?_ _ | refine kdr ?_ | refine kal ?_ _)); exact BK101.out)) : gb101 ≠ gb103)); have n7_ := am ((by rw [hg]; exact Nat.ne_of_gt (blk_lt (g := gb101) (o := .cells #[.slice A0_0 l0_0.length c0_0] 29 (0, 0)) (by (with_reducible repeat (first | refine kdn ?_ _ | refine kdr ?_ | refine kal ?_ _)); exact BK101.out)) : gb103 ≠ gb101)); have n8_ := am ((by rw [hg]; exact Nat.ne_of_lt (blk_lt (g := gb102) (o := .cells #[.slice A1_0 l1_0.length c1_0] 29 (0, 0)) (by (with_reducible repeat (first | refine kdn ?_ _ | refine kdr ?_ | refine kal ?_ _)); exact BK102.out)) : gb102 ≠ gb103)); have n9_ := am ((by rw [hg]; exact Nat.ne_of_gt (blk_lt (g := gb102) (o := .cells #[.slice A1_0 l1_0.length c1_0] 29 (0, 0)) (by (with_reducible repeat (first | refine kdn ?_ _ | refine kdr ?_ | refine kal ?_ _)); exact BK102.out)) : gb103 ≠ gb102)); clear BK101; clear BK102; clear HB; have BK101 := n0_; have BK102 := n1_; have HB := n2_; have BK103 := n3_; have GW103 := n4_; have GE103 := n5_; have NB101_103 := n6_; have NB103_101 := n7_; have NB102_103 := n8_; have NB103_102 := n9_; clear n0_ n1_ n2_ n3_ n4_ n5_ n6_ n7_ n8_ n9_; clear hb hbox hg; have hnb6 := NB101_102.out; have hnc6 := NB102_101.out; have hnb7 := NB101_103.out; have hnc7 := NB103_101.out; have hcz8_0 : w5.cell? ⟨gb101, 0, none⟩ = some (.slice A0_0 l0_0.length c0_0) := (bcl BK101.out 0).trans rfl; have hfz8_0 := bfz BK101.out 0))
 go_loopg [5, 6, 13] k (fun kq v5 v6 v13 w' => ∃ (x5_1 : List (S42)) (x6_1 : Int) (x13_1 : Int), v6 = .int .i64 x6_1 ∧ v13 = .int .i64 x13_1 ∧ Aside0 (ranges_Set_Less.l0 kq x5_1 x6_1 l0_0 (l0_0.length : Int) x13_1 l1_0 = some r) ∧ Aside0 (kq ≤ k) ∧ Aside0 (Kd.R k42 42 w' w.heap.size (fun _ => True) v5 x5_1) ∧ Aside0 (w'.heap[gb101]? = some (.cells #[(.slice A0_0 l0_0.length c0_0)] 29 (0, 0))) ∧ Aside0 (w'.heap[gb102]? = some (.cells #[(.slice A1_0 l1_0.length c1_0)] 29 (0, 0))) ∧ Aside0 (w'.heap[gb103]? = some (.cells #[(.slice none 0 0)] 29 (0, 0))) ∧ Aside0 (Below w.heap.size w w'))
 case atStart => exact ⟨(([] : List (S42))), (0), (0), (by first | rfl | (simp; done) | (simp [*]; done)), (by first | rfl | (simp; done) | (simp [*]; done)), H', ⟨Nat.le_refl _⟩, ⟨by first | exact Kd.R_nil _ _ _ _ _ | exact Kd.N_nil _ _ _ _ _ | exact Kd.V_nil _ _ _ _ _ | exact Kd.Q_nil _ _ _ _ _ | exact Kd.S_nil _ _ _ _ _⟩, ⟨by (with_reducible repeat (first | refine kdn ?_ _ | refine kdr ?_ | refine kal ?_ _)); exact BK101.out⟩, ⟨by (with_reducible repeat (first | refine kdn ?_ _ | refine kdr ?_ | refine kal ?_ _)); exact BK102.out⟩, ⟨by (with_reducible repeat (first | refine kdn ?_ _ | refine kdr ?_ | refine kal ?_ _)); exact BK103.out⟩, ⟨by repeat (first | (with_reducible first | exact HB.out | apply bal | apply bdn | apply bd1 | refine bst ?_ GE101.out | refine bst ?_ GE102.out | refine bst ?_ GE103.out) | exact HB.out)⟩⟩
 case round =>
  clear H'
  try clear c1
  try clear p2
  try clear c3
  try clear c6
  try clear c7
  try clear hcz8_0
  try clear hfz8_0
  obtain ⟨x5_1, x6_1, x13_1, rfl, rfl, HA, HK1, HO_5, BK101, BK102, BK103, HB⟩ := hrel
  cases gk with
  | zero => exact absurd HA.out (by simp [ranges_Set_Less.l0])
  | succ k1 =>
   have H := HA.out
   clear HA
   simp only [ranges_Set_Less.l0] at H
   by_cases c9 : x13_1 < (l0_0.length : Int)
   ·rw [if_pos c9] at H
    have c9b0 : decide (x13_1 < (l0_0.length : Int)) = true := decide_eq_true c9
    clear c9
    by_cases c10 : 0 ≤ x13_1
    ·rw [if_pos c10] at H
     have c10b0 : decide (0 ≤ x13_1) = true := decide_eq_true c10
     clear c10
     by_cases c11 : x13_1 < (l0_0.length : Int)
     ·rw [if_pos c11] at H
      have c11b0 : decide (x13_1 < (l0_0.length : Int)) = true := decide_eq_true c11
      clear c11
      have HC12 := am H
      clear H
      have p104 : 0 ≤ (x13_1 : Int) := of_decide_eq_true (by first | (with_reducible assumption) | assumption)
      have q104 : x13_1 < (l0_0.length : Int) := of_decide_eq_true (by first | (with_reducible assumption) | assumption)
      obtain ⟨ad104, e104, hx104_0, hx104_1⟩ := at_T42 HR0_0.out x13_1 p104 q104
      cases e104
      replace hx104_0 := (HB.out.cell (World.block_lt_of_cell? w _ hx104_0)).trans hx104_0
      replace hx104_1 := (HB.out.cell (World.block_lt_of_cell? w _ hx104_1)).trans hx104_1
      replace p104 := eq_true p104
      replace q104 := eq_true q104
      go_upto_block 2 with (first | ((with_reducible refine gate_dst (N := 8) rfl ?_); refine box_event ?hg (N := 8) ?hd (cs := #[.int .i64 0, .int .i64 0]) (t := 42) ?hr ?_; (case hd => rfl); (case hg => rfl); (case hr => first | (go_simp; done) | (go_simp; rfl)); intro gb105 hg w13 hbox hb; have n0_ := am (Kd.R_below (Kd.R_elderB (by (with_reducible repeat (first | apply Kd.R_alloc | apply Kd.R_drewN | apply Kd.R_drew)); exact HO_5.out) gb105 (Nat.le_of_eq hg.symm)) hb); have n1_ := am (blk_below (g := gb101) (o := .cells #[.slice (some ad104) l0_0.length c0_0] 29 (0, 0)) (by (with_reducible repeat (first | refine kdn ?_ _ | refine kdr ?_ | refine kal ?_ _)); exact BK101.out) hb); have n2_ := am (blk_below (g := gb102) (o := .cells #[.slice A1_0 l1_0.length c1_0] 29 (0, 0)) (by (with_reducible repeat (first | refine kdn ?_ _ | refine kdr ?_ | refine kal ?_ _)); exact BK102.out) hb); have n3_ := am (blk_below (g := gb103) (o := .cells #[.slice none 0 0] 29 (0, 0)) (by (with_reducible repeat (first | refine kdn ?_ _ | refine kdr ?_ | refine kal ?_ _)); exact BK103.out) hb); have n4_ := am (below_step (by repeat (first | (with_reducible first | exact HB.out | apply bal | apply bdn | apply bd1 | refine bst ?_ GE101.out | refine bst ?_ GE102.out | refine bst ?_ GE103.out) | exact HB.out)) hb); have n5_ := am (hbox); have n6_ := am ((by rw [hg]; exact (below_size (by repeat (first | (with_reducible first | exact HB.out | apply bal | apply bdn | apply bd1 | refine bst ?_ GE101.out | refine bst ?_ GE102.out | refine bst ?_ GE103.out) | exact HB.out))) : w.heap.size ≤ gb105)); have n7_ := am ((by rw [hg]; exact (below_size (by repeat (first | (with_reducible first | exact HB.out | apply bal | apply bdn | apply bd1 | refine bst ?_ GE101.out | refine bst ?_ GE102.out | refine bst ?_ GE103.out) | exact HB.out))) : w.heap.size ≤ gb105)); have n8_ := am ((by rw [hg]; exact Nat.ne_of_lt (blk_lt (g := gb101) (o := .cells #[.slice (some ad104) l0_0.length c0_0] 29 (0, 0)) (by (with_reducible repeat (first | refine kdn ?_ _ | refine kdr ?_ | refine kal ?_ _)); exact BK101.out)) : gb101 ≠ gb105)); have n9_ := am ((by rw [hg]; exact Nat.ne_of_gt (blk_lt (g := gb101) (o := .cells #[.slice (some ad104) l0_0.length c0_0] 29 (0, 0)) (by (with_reducible repeat (first | refine kdn ?_ _ | refine kdr ?_ | refine kal ?_ _)); exact BK101.out)) : gb105 ≠ gb101)); have n10_ := am ((by rw [hg]; exact Nat.ne_of_lt (blk_lt (g := gb102) (o := .cells #[.slice A1_0 l1_0.length c1_0] 29 (0, 0)) (by (with_reducible repeat (first | refine kdn ?_ _ | refine kdr ?_ | refine kal ?_ _)); exact BK102.out)) : gb102 ≠ gb105)); have n11_ := am ((by rw [hg]; exact Nat.ne_of_gt (blk_lt (g := gb102) (o := .cells #[.slice A1_0 l1_0.length c1_0] 29 (0, 0)) (by (with_reducible repeat (first | refine kdn ?_ _ | refine kdr ?_ | refine kal ?_ _)); exact BK102.out)) : gb105 ≠ gb102)); have n12_ := am ((by rw [hg]; exact Nat.ne_of_lt (blk_lt (g := gb103) (o := .cells #[.slice none 0 0] 29 (0, 0)) (by (with_reducible repeat (first | refine kdn ?_ _ | refine kdr ?_ | refine kal ?_ _)); exact BK103.out)) : gb103 ≠ gb105)); have n13_ := am ((by rw [hg]; exact Nat.ne_of_gt (blk_lt (g := gb103) (o := .cells #[.slice none 0 0] 29 (0, 0)) (by (with_reducible repeat (first | refine kdn ?_ _ | refine kdr ?_ | refine kal ?_ _)); exact BK103.out)) : gb105 ≠ gb103)); clear HO_5; clear BK101; clear BK102; clear BK103; clear HB; have HO_5 := n0_; have BK101 := n1_; have BK102 := n2_; have BK103 := n3_; have HB := n4_; have BK105 := n5_; have GW105 := n6_; have GE105 := n7_; have NB101_105 := n8_; have NB105_101 := n9_; have NB102_105 := n10_; have NB105_102 := n11_; have NB103_105 := n12_; have NB105_103 := n13_; clear n0_ n1_ n2_ n3_ n4_ n5_ n6_ n7_ n8_ n9_ n10_ n11_ n12_ n13_; clear hb hbox hg; have hnb14 := NB105_101.out; have hnc14 := NB101_105.out; have hnb15 := NB105_102.out; have hnc15 := NB102_105.out; have hnb16 := NB105_103.out; have hnc16 := NB103_105.out; have hcz17_0 : w13.cell? ⟨gb105, 0, none⟩ = some (.int .i64 0) := (bcl BK105.out 0).trans rfl; have hcz17_1 : w13.cell? ⟨gb105, 1, none⟩ = some (.int .i64 0) := (bcl BK105.out 1).trans rfl; have hfz17_0 := bfz BK105.out 0; have hfz17_1 := bfz BK105.out 1))
      (try simp only [Act.put, sb1, sb2, sb3])
      go_cut [6] (fun v6 wc => ∃ (kq : Nat) (x6_11 : Int), v6 = .int .i64 x6_11 ∧ Aside0 (ranges_Set_Less.j2 kq x5_1 x6_11 l0_0 (l0_0.length : Int) x13_1 l1_0 ((rd_T42 l0_0 x13_1).f0) ((rd_T42 l0_0 x13_1).f1) = some r) ∧ Aside0 (kq ≤ k1) ∧ Aside0 (Kd.R k42 42 wc w.heap.size (fun k_ => k_ ≠ gb105) u5 x5_1) ∧ Aside0 (wc.heap[gb101]? = some (.cells #[(.slice (some ad104) l0_0.length c0_0)] 29 (0, 0))) ∧ Aside0 (wc.heap[gb102]? = some (.cells #[(.slice A1_0 l1_0.length c1_0)] 29 (0, 0))) ∧ Aside0 (wc.heap[gb103]? = some (.cells #[(.slice none 0 0)] 29 (0, 0))) ∧ Aside0 (wc.heap[gb105]? = some (.cells #[.int .i64 ((rd_T42 l0_0 x13_1).f0), .int .i64 ((rd_T42 l0_0 x13_1).f1)] 42 (0, 0))) ∧ Aside0 (Below w.heap.size w wc))
      case first =>
       have H := HC12.out
       clear HC12
       have H' := am H
       clear H
       go_wp2
       go_loopg [6] k1 (fun kq v6 w' => ∃ (x6_2 : Int), v6 = .int .i64 x6_2 ∧ Aside0 (ranges_Set_Less.l1 kq x5_1 x6_2 l0_0 (l0_0.length : Int) x13_1 l1_0 ((rd_T42 l0_0 x13_1).f0) ((rd_T42 l0_0 x13_1).f1) = some r) ∧ Aside0 (kq ≤ k1) ∧ Aside0 (Kd.R k42 42 w' w.heap.size (fun k_ => k_ ≠ gb105) u5 x5_1) ∧ Aside0 (w'.heap[gb101]? = some (.cells #[(.slice (some ad104) l0_0.length c0_0)] 29 (0, 0))) ∧ Aside0 (w'.heap[gb102]? = some (.cells #[(.slice A1_0 l1_0.length c1_0)] 29 (0, 0))) ∧ Aside0 (w'.heap[gb103]? = some (.cells #[(.slice none 0 0)] 29 (0, 0))) ∧ Aside0 (w'.heap[gb105]? = some (.cells #[.int .i64 ((rd_T42 l0_0 x13_1).f0), .int .i64 ((rd_T42 l0_0 x13_1).f1)] 42 (0, 0))) ∧ Aside0 (Below w.heap.size w w'))
       case atStart => exact ⟨(x6_1), (by first | rfl | (simp; done) | (simp [*]; done)), H', ⟨Nat.le_refl _⟩, ⟨by (with_reducible repeat (first | apply Kd.R_alloc | apply Kd.R_drewN | apply Kd.R_drew)); exact Kd.R_mono (Kd.R_far (p := ⟨gb105, 1, none⟩) (Kd.R_far (p := ⟨gb105, 0, none⟩) (Kd.R_mono HO_5.out (fun k_ hk => (⟨hk, hk.2⟩ : _ ∧ k_ ≠ gb105))) (fun _ hk => hk.2) (.int .i64 ((rd_T42 l0_0 x13_1).f0))) (fun _ hk => hk.2) (.int .i64 ((rd_T42 l0_0 x13_1).f1))) (fun _ hk => hk.1.2)⟩, ⟨by (with_reducible repeat (first | refine kdn ?_ _ | refine kdr ?_ | refine kal ?_ _)); refine blk_far ?_ NB101_105.out _; (with_reducible repeat (first | refine kdn ?_ _ | refine kdr ?_ | refine kal ?_ _)); refine blk_far ?_ NB101_105.out _; (with_reducible repeat (first | refine kdn ?_ _ | refine kdr ?_ | refine kal ?_ _)); exact BK101.out⟩, ⟨by (with_reducible repeat (first | refine kdn ?_ _ | refine kdr ?_ | refine kal ?_ _)); refine blk_far ?_ NB102_105.out _; (with_reducible repeat (first | refine kdn ?_ _ | refine kdr ?_ | refine kal ?_ _)); refine blk_far ?_ NB102_105.out _; (with_reducible repeat (first | refine kdn ?_ _ | refine kdr ?_ | refine kal ?_ _)); exact BK102.out⟩, ⟨by (with_reducible repeat (first | refine kdn ?_ _ | refine kdr ?_ | refine kal ?_ _)); refine blk_far ?_ NB103_105.out _; (with_reducible repeat (first | refine kdn ?_ _ | refine kdr ?_ | refine kal ?_ _)); refine blk_far ?_ NB103_105.out _; (with_reducible repeat (first | refine kdn ?_ _ | refine kdr ?_ | refine kal ?_ _)); exact BK103.out⟩, ⟨by (with_reducible repeat (first | refine kdn ?_ _ | refine kdr ?_ | refine kal ?_ _)); refine blk_put (cs := #[.int .i64 ((rd_T42 l0_0 x13_1).f0), .int .i64 0]) ?_ 1 _ rfl; (with_reducible repeat (first | refine kdn ?_ _ | refine kdr ?_ | refine kal ?_ _)); refine blk_put (cs := #[.int .i64 0, .int .i64 0]) ?_ 0 _ rfl; (with_reducible repeat (first | refine kdn ?_ _ | refine kdr ?_ | refine kal ?_ _)); exact BK105.out⟩, ⟨by repeat (first | (with_reducible first | exact HB.out | apply bal | apply bdn | apply bd1 | refine bst ?_ GE101.out | refine bst ?_ GE102.out | refine bst ?_ GE103.out | refine bst ?_ GE105.out) | exact HB.out)⟩⟩
       case round =>
        clear H'
        try clear c1
        try clear p1
        try clear q1
        try clear hx1
        try clear p2
        try clear c3
        try clear c6
        try clear c7
        try clear c9
        try clear c9b0
        try clear c10
        try clear c10b0
        try clear p10
        try clear q10
        try clear hx10
        try clear c11
        try clear c11b0
        try clear c14
        try clear c15
        try clear c16
        try clear hcz17_0
        try clear hcz17_1
        try clear hcz8_0
        try clear hfz17_0
        try clear hfz17_1
        try clear hfz8_0
        try clear hx104_0
        try clear hx104_1
        try clear p104
        try clear p2
        try clear q104
        obtain ⟨x6_2, rfl, HA, HK2, HO_5, BK101, BK102, BK103, BK105, HB⟩ := hrel
        cases gk with
        | zero => exact absurd HA.out (by simp [ranges_Set_Less.l1])
        | succ k2 =>
         have H := HA.out
         clear HA
         simp only [ranges_Set_Less.l1] at H
         by_cases c18 : x6_2 < (l1_0.length : Int)
         ·rw [if_pos c18] at H
          have c18b0 : decide (x6_2 < (l1_0.length : Int)) = true := decide_eq_true c18
          clear c18
          (first | rw [c18b0] | (simp only [i64_w, i32_w]; rw [c18b0]) | skip)
          by_cases c19 : 0 ≤ x6_2
          ·rw [if_pos c19] at H
           have c19b0 : decide (0 ≤ x6_2) = true := decide_eq_true c19
           clear c19
           by_cases c20 : ((rd_T42 l1_0 x6_2).f1) ≤ ((rd_T42 l0_0 x13_1).f0)
           ·rw [if_pos c20] at H
            have c20b0 : decide (((rd_T42 l1_0 x6_2).f1) ≤ ((rd_T42 l0_0 x13_1).f0)) = true := decide_eq_true c20
            clear c20
            have H' := am H
            clear H
            try go_wp2
            have n0_ := am (Kd.R_drew HO_5.out)
            have n1_ := am (kdr BK101.out)
            have n2_ := am (kdr BK102.out)
            have n3_ := am (kdr BK103.out)
            have n4_ := am (kdr BK105.out)
            have n5_ := am (bd1 HB.out)
            clear HO_5
            clear BK101
            clear BK102
            clear BK103
            clear BK105
            clear HB
            have HO_5 := n0_
            have BK101 := n1_
            have BK102 := n2_
            have BK103 := n3_
            have BK105 := n4_
            have HB := n5_
            clear n0_ n1_ n2_ n3_ n4_ n5_
            have p106 : 0 ≤ (x6_2 : Int) := of_decide_eq_true (by first | (with_reducible assumption) | assumption)
            have q106 : x6_2 < (l1_0.length : Int) := of_decide_eq_true (by first | (with_reducible assumption) | assumption)
            obtain ⟨ad106, e106, hx106_0, hx106_1⟩ := at_T42 HR1_0.out x6_2 p106 q106
            have hw106_1 := hx106_1
            have hw106_0 := hx106_0
            cases e106
            replace hx106_0 := (HB.out.cell (World.block_lt_of_cell? w _ hx106_0)).trans hx106_0
            replace hx106_1 := (HB.out.cell (World.block_lt_of_cell? w _ hx106_1)).trans hx106_1
            replace p106 := eq_true p106
            replace q106 := eq_true q106
            refine start_ (n := 16) (S := fun w' => w'.cell? ⟨gb102, 0, none⟩ = some (.slice (some ad106) l1_0.length c1_0) ∧ w'.cell? ⟨gb105, 0, none⟩ = some (.int .i64 ((rd_T42 l0_0 x13_1).f0)) ∧ w'.cell? ⟨gb105, 1, none⟩ = some (.int .i64 ((rd_T42 l0_0 x13_1).f1)) ∧ w'.cell? (ad106.add ((x6_2).toNat * 2)) = some (.int .i64 ((rd_T42 l1_0 x6_2).f0)) ∧ w'.cell? ⟨(ad106.add ((x6_2).toNat * 2)).block, (ad106.add ((x6_2).toNat * 2)).off + 1, none⟩ = some (.int .i64 ((rd_T42 l1_0 x6_2).f1))) (ds := []) #[false, false, false, false, false, false, false, false, false, false, false, false, false, false, false, false] (by kernel_rfl) rfl rfl ⟨(bcl BK102.out 0).trans rfl, (bcl BK105.out 0).trans rfl, (bcl BK105.out 1).trans rfl, ((HB.out.cell (World.block_lt_of_cell? w _ hw106_0)).trans hw106_0), ((HB.out.cell (World.block_lt_of_cell? w _ hw106_1)).trans hw106_1)⟩ (fun hHeld => ?_); refine with_tabW ranges_Set_Less.tab6 ranges_Set_Less.bits6 (fun HT_ HW_ => ?_)
            generalize wr.drew = w21 at HO_5 BK101 BK102 BK103 BK105 HB hx106_0 hx106_1 hHeld ⊢
            refine pure_ (i := 0) (N := some 17) (v := ?_) (a' := ?_) #[true, false, false, false, false, false, false, false, false, false, false, false, false, false, false, false] rfl rfl (any_of HT_.out (by kernel_rfl)) (fun _ _ _ h => h) (Or.inl ⟨by rfl, ?_⟩) ?_ ?_
            rotate_left
            ·intro w'
             go_simp
             with_reducible rfl
            rotate_left
            ·simp only [Act.put, sb1, sb2, sb3, i64_w, i32_w]
             rfl
            refine pure_ (i := 1) (N := some 18) (v := ?_) (a' := ?_) #[true, true, false, false, false, false, false, false, false, false, false, false, false, false, false, false] rfl rfl (any_of HT_.out (by kernel_rfl)) (fun _ _ _ h => h) (Or.inl ⟨by rfl, ?_⟩) ?_ ?_
            rotate_left
            ·intro w'
             go_simp
             with_reducible rfl
            rotate_left
            ·simp only [Act.put, sb1, sb2, sb3, i64_w, i32_w]
             rfl
            refine take_ (i := 2) (N := some 19) (v := ?_) (a' := ?_) #[true, true, true, false, false, false, false, false, false, false, false, false, false, false, false, false] rfl rfl (take_ofW HT_.out HW_.out (by kernel_rfl)) (fun _ _ _ h => h) (Or.inl ⟨by rfl, ?_⟩) hHeld ?_ ?_
            rotate_left
            ·rintro w' ⟨s0, s1, s2, s3, s4⟩
             go_simp
             with_reducible rfl
            rotate_left
            ·simp only [Act.put, sb1, sb2, sb3, i64_w, i32_w]
             rfl
            refine pure_ (i := 3) (N := some 20) (v := ?_) (a' := ?_) #[true, true, true, true, false, false, false, false, false, false, false, false, false, false, false, false] rfl rfl (any_of HT_.out (by kernel_rfl)) (fun _ _ _ h => h) (Or.inl ⟨by rfl, ?_⟩) ?_ ?_
            rotate_left
            ·intro w'
             go_simp
             with_reducible rfl
            rotate_left
            ·simp only [Act.put, sb1, sb2, sb3, i64_w, i32_w]
             rfl
            refine pure_ (i := 4) (N := some 21) (v := ?_) (a' := ?_) #[true, true, true, true, true, false, false, false, false, false, false, false, false, false, false, false] rfl rfl (any_of HT_.out (by kernel_rfl)) (fun _ _ _ h => h) (Or.inl ⟨by rfl, ?_⟩) ?_ ?_
            rotate_left
            ·intro w'
             go_simp
             with_reducible rfl
            rotate_left
            ·simp only [Act.put, sb1, sb2, sb3, i64_w, i32_w]
             rfl
            refine pure_ (i := 5) (N := some 22) (v := ?_) (a' := ?_) #[true, true, true, true, true, true, false, false, false, false, false, false, false, false, false, false] rfl rfl (any_of HT_.out (by kernel_rfl)) (fun _ _ _ h => h) (Or.inl ⟨by rfl, ?_⟩) ?_ ?_
            rotate_left
            ·intro w'
             go_simp
             with_reducible rfl
            rotate_left
            ·simp only [Act.put, sb1, sb2, sb3, i64_w, i32_w]
             rfl
            refine pure_ (i := 6) (N := some 23) (v := ?_) (a' := ?_) #[true, true, true, true, true, true, true, false, false, false, false, false, false, false, false, false] rfl rfl (any_of HT_.out (by kernel_rfl)) (fun _ _ _ h => h) (Or.inl ⟨by rfl, ?_⟩) ?_ ?_
            rotate_left
            ·intro w'
             go_simp
             with_reducible rfl
            rotate_left
            ·simp only [Act.put, sb1, sb2, sb3, i64_w, i32_w]
             rfl
            refine pure_ (i := 8) (N := some 25) (v := ?_) (a' := ?_) #[true, true, true, true, true, true, true, false, true, false, false, false, false, false, false, false] rfl rfl (any_of HT_.out (by kernel_rfl)) (fun _ _ _ h => h) (Or.inl ⟨by rfl, ?_⟩) ?_ ?_
            rotate_left
            ·intro w'
             go_simp
             with_reducible rfl
            rotate_left
            ·simp only [Act.put, sb1, sb2, sb3, i64_w, i32_w]
             rfl
            refine pure_ (i := 12) (N := some 29) (v := ?_) (a' := ?_) #[true, true, true, true, true, true, true, false, true, false, false, false, true, false, false, false] rfl rfl (any_of HT_.out (by kernel_rfl)) (fun _ _ _ h => h) (Or.inl ⟨by rfl, ?_⟩) ?_ ?_
            rotate_left
            ·intro w'
             go_simp
             with_reducible rfl
            rotate_left
            ·simp only [Act.put, sb1, sb2, sb3, i64_w, i32_w]
             rfl
            refine take_ (i := 7) (N := some 24) (v := ?_) (a' := ?_) #[true, true, true, true, true, true, true, true, true, false, false, false, true, false, false, false] rfl rfl (take_ofW HT_.out HW_.out (by kernel_rfl)) (fun _ _ _ h => h) (Or.inl ⟨by rfl, ?_⟩) hHeld ?_ ?_
            rotate_left
            ·rintro w' ⟨s0, s1, s2, s3, s4⟩
             go_simp
             with_reducible rfl
            rotate_left
            ·simp only [Act.put, sb1, sb2, sb3, i64_w, i32_w]
             rfl
            refine pure_ (i := 9) (N := some 26) (v := ?_) (a' := ?_) #[true, true, true, true, true, true, true, true, true, true, false, false, true, false, false, false] rfl rfl (any_of HT_.out (by kernel_rfl)) (fun _ _ _ h => h) (Or.inl ⟨by rfl, ?_⟩) ?_ ?_
            rotate_left
            ·intro w'
             go_simp
             with_reducible rfl
            rotate_left
            ·simp only [Act.put, sb1, sb2, sb3, i64_w, i32_w]
             rfl
            refine pure_ (i := 10) (N := some 27) (v := ?_) (a' := ?_) #[true, true, true, true, true, true, true, true, true, true, true, false, true, false, false, false] rfl rfl (any_of HT_.out (by kernel_rfl)) (fun _ _ _ h => h) (Or.inl ⟨by rfl, ?_⟩) ?_ ?_
            rotate_left
            ·intro w'
             go_simp
             with_reducible rfl
            rotate_left
            ·simp only [Act.put, sb1, sb2, sb3, i64_w, i32_w]
             rfl
            refine take_ (i := 11) (N := some 28) (v := ?_) (a' := ?_) #[true, true, true, true, true, true, true, true, true, true, true, true, true, false, false, false] rfl rfl (take_ofW HT_.out HW_.out (by kernel_rfl)) (fun _ _ _ h => h) (Or.inl ⟨by rfl, ?_⟩) hHeld ?_ ?_
            rotate_left
            ·rintro w' ⟨s0, s1, s2, s3, s4⟩
             go_simp
             with_reducible rfl
            rotate_left
            ·simp only [Act.put, sb1, sb2, sb3, i64_w, i32_w]
             rfl
            refine take_ (i := 13) (N := some 30) (v := ?_) (a' := ?_) #[true, true, true, true, true, true, true, true, true, true, true, true, true, true, false, false] rfl rfl (take_ofW HT_.out HW_.out (by kernel_rfl)) (fun _ _ _ h => h) (Or.inl ⟨by rfl, ?_⟩) hHeld ?_ ?_
            rotate_left
            ·rintro w' ⟨s0, s1, s2, s3, s4⟩
             go_simp
             with_reducible rfl
            rotate_left
            ·simp only [Act.put, sb1, sb2, sb3, i64_w, i32_w]
             rfl
            refine pure_ (i := 14) (N := some 31) (v := ?_) (a' := ?_) #[true, true, true, true, true, true, true, true, true, true, true, true, true, true, true, false] rfl rfl (any_of HT_.out (by kernel_rfl)) (fun _ _ _ h => h) (Or.inl ⟨by rfl, ?_⟩) ?_ ?_
            rotate_left
            ·intro w'
             go_simp
             with_reducible rfl
            rotate_left
            ·simp only [Act.put, sb1, sb2, sb3, i64_w, i32_w]
             rfl
            refine pure_ (i := 15) (N := some 32) (v := ?_) (a' := ?_) #[true, true, true, true, true, true, true, true, true, true, true, true, true, true, true, true] rfl rfl (any_of HT_.out (by kernel_rfl)) (fun _ _ _ h => h) (Or.inl ⟨by rfl, ?_⟩) ?_ ?_
            rotate_left
            ·intro w'
             go_simp
             with_reducible rfl
            rotate_left
            ·simp only [Act.put, sb1, sb2, sb3, i64_w, i32_w]
             rfl
            refine done_ (done_of HT_.out (by kernel_rfl)) ?_
            try go_wp2
            go_roundg k2
            case measure => have := HK1.out; have := HK2.out; omega
            case rel => exact ⟨(wrap64 (x6_2 + 1)), (by first | rfl | (simp; done) | (simp [*]; done)), H', ⟨by have := HK1.out; have := HK2.out; omega⟩, ⟨by (with_reducible repeat (first | apply Kd.R_alloc | apply Kd.R_drewN | apply Kd.R_drew)); exact HO_5.out⟩, ⟨by (with_reducible repeat (first | refine kdn ?_ _ | refine kdr ?_ | refine kal ?_ _)); exact BK101.out⟩, ⟨by (with_reducible repeat (first | refine kdn ?_ _ | refine kdr ?_ | refine kal ?_ _)); exact BK102.out⟩, ⟨by (with_reducible repeat (first | refine kdn ?_ _ | refine kdr ?_ | refine kal ?_ _)); exact BK103.out⟩, ⟨by (with_reducible repeat (first | refine kdn ?_ _ | refine kdr ?_ | refine kal ?_ _)); exact BK105.out⟩, ⟨by repeat (first | (with_reducible first | exact HB.out | apply bal | apply bdn | apply bd1 | refine bst ?_ GE101.out | refine bst ?_ GE102.out | refine bst ?_ GE103.out | refine bst ?_ GE105.out) | exact HB.out)⟩⟩
           ·rw [if_neg c20] at H
            have c20b0 : decide (((rd_T42 l1_0 x6_2).f1) ≤ ((rd_T42 l0_0 x13_1).f0)) = false := decide_eq_false c20
            clear c20
            have H' := am H
            clear H
            try go_wp2
            have n0_ := am (Kd.R_drew HO_5.out)
            have n1_ := am (kdr BK101.out)
            have n2_ := am (kdr BK102.out)
            have n3_ := am (kdr BK103.out)
            have n4_ := am (kdr BK105.out)
            have n5_ := am (bd1 HB.out)
            clear HO_5
            clear BK101
            clear BK102
            clear BK103
            clear BK105
            clear HB
            have HO_5 := n0_
            have BK101 := n1_
            have BK102 := n2_
            have BK103 := n3_
            have BK105 := n4_
            have HB := n5_
            clear n0_ n1_ n2_ n3_ n4_ n5_
            have p106 : 0 ≤ (x6_2 : Int) := of_decide_eq_true (by first | (with_reducible assumption) | assumption)
            have q106 : x6_2 < (l1_0.length : Int) := of_decide_eq_true (by first | (with_reducible assumption) | assumption)
            obtain ⟨ad106, e106, hx106_0, hx106_1⟩ := at_T42 HR1_0.out x6_2 p106 q106
            have hw106_1 := hx106_1
            have hw106_0 := hx106_0
            cases e106
            replace hx106_0 := (HB.out.cell (World.block_lt_of_cell? w _ hx106_0)).trans hx106_0
            replace hx106_1 := (HB.out.cell (World.block_lt_of_cell? w _ hx106_1)).trans hx106_1
            replace p106 := eq_true p106
            replace q106 := eq_true q106
            refine start_ (n := 16) (S := fun w' => w'.cell? ⟨gb102, 0, none⟩ = some (.slice (some ad106) l1_0.length c1_0) ∧ w'.cell? ⟨gb105, 0, none⟩ = some (.int .i64 ((rd_T42 l0_0 x13_1).f0)) ∧ w'.cell? ⟨gb105, 1, none⟩ = some (.int .i64 ((rd_T42 l0_0 x13_1).f1)) ∧ w'.cell? (ad106.add ((x6_2).toNat * 2)) = some (.int .i64 ((rd_T42 l1_0 x6_2).f0)) ∧ w'.cell? ⟨(ad106.add ((x6_2).toNat * 2)).block, (ad106.add ((x6_2).toNat * 2)).off + 1, none⟩ = some (.int .i64 ((rd_T42 l1_0 x6_2).f1))) (ds := []) #[false, false, false, false, false, false, false, false, false, false, false, false, false, false, false, false] (by kernel_rfl) rfl rfl ⟨(bcl BK102.out 0).trans rfl, (bcl BK105.out 0).trans rfl, (bcl BK105.out 1).trans rfl, ((HB.out.cell (World.block_lt_of_cell? w _ hw106_0)).trans hw106_0), ((HB.out.cell (World.block_lt_of_cell? w _ hw106_1)).trans hw106_1)⟩ (fun hHeld => ?_); refine with_tabW ranges_Set_Less.tab6 ranges_Set_Less.bits6 (fun HT_ HW_ => ?_)
            generalize wr.drew = w22 at HO_5 BK101 BK102 BK103 BK105 HB hx106_0 hx106_1 hHeld ⊢
            refine pure_ (i := 0) (N := some 17) (v := ?_) (a' := ?_) #[true, false, false, false, false, false, false, false, false, false, false, false, false, false, false, false] rfl rfl (any_of HT_.out (by kernel_rfl)) (fun _ _ _ h => h) (Or.inl ⟨by rfl, ?_⟩) ?_ ?_
            rotate_left
            ·intro w'
             go_simp
             with_reducible rfl
            rotate_left
            ·simp only [Act.put, sb1, sb2, sb3, i64_w, i32_w]
             rfl
            refine pure_ (i := 1) (N := some 18) (v := ?_) (a' := ?_) #[true, true, false, false, false, false, false, false, false, false, false, false, false, false, false, false] rfl rfl (any_of HT_.out (by kernel_rfl)) (fun _ _ _ h => h) (Or.inl ⟨by rfl, ?_⟩) ?_ ?_
            rotate_left
            ·intro w'
             go_simp
             with_reducible rfl
            rotate_left
            ·simp only [Act.put, sb1, sb2, sb3, i64_w, i32_w]
             rfl
            refine take_ (i := 2) (N := some 19) (v := ?_) (a' := ?_) #[true, true, true, false, false, false, false, false, false, false, false, false, false, false, false, false] rfl rfl (take_ofW HT_.out HW_.out (by kernel_rfl)) (fun _ _ _ h => h) (Or.inl ⟨by rfl, ?_⟩) hHeld ?_ ?_
            rotate_left
            ·rintro w' ⟨s0, s1, s2, s3, s4⟩
             go_simp
             with_reducible rfl
            rotate_left
            ·simp only [Act.put, sb1, sb2, sb3, i64_w, i32_w]
             rfl
            refine pure_ (i := 3) (N := some 20) (v := ?_) (a' := ?_) #[true, true, true, true, false, false, false, false, false, false, false, false, false, false, false, false] rfl rfl (any_of HT_.out (by kernel_rfl)) (fun _ _ _ h => h) (Or.inl ⟨by rfl, ?_⟩) ?_ ?_
            rotate_left
            ·intro w'
             go_simp
             with_reducible rfl
            rotate_left
            ·simp only [Act.put, sb1, sb2, sb3, i64_w, i32_w]
             rfl
            refine pure_ (i := 4) (N := some 21) (v := ?_) (a' := ?_) #[true, true, true, true, true, false, false, false, false, false, false, false, false, false, false, false] rfl rfl (any_of HT_.out (by kernel_rfl)) (fun _ _ _ h => h) (Or.inl ⟨by rfl, ?_⟩) ?_ ?_
            rotate_left
            ·intro w'
             go_simp
             with_reducible rfl
            rotate_left
            ·simp only [Act.put, sb1, sb2, sb3, i64_w, i32_w]
             rfl
            refine pure_ (i := 5) (N := some 22) (v := ?_) (a' := ?_) #[true, true, true, true, true, true, false, false, false, false, false, false, false, false, false, false] rfl rfl (any_of HT_.out (by kernel_rfl)) (fun _ _ _ h => h) (Or.inl ⟨by rfl, ?_⟩) ?_ ?_
            rotate_left
            ·intro w'
             go_simp
             with_reducible rfl
            rotate_left
            ·simp only [Act.put, sb1, sb2, sb3, i64_w, i32_w]
             rfl
            refine pure_ (i := 6) (N := some 23) (v := ?_) (a' := ?_) #[true, true, true, true, true, true, true, false, false, false, false, false, false, false, false, false] rfl rfl (any_of HT_.out (by kernel_rfl)) (fun _ _ _ h => h) (Or.inl ⟨by rfl, ?_⟩) ?_ ?_
            rotate_left
            ·intro w'
             go_simp
             with_reducible rfl
            rotate_left
            ·simp only [Act.put, sb1, sb2, sb3, i64_w, i32_w]
             rfl
            refine pure_ (i := 8) (N := some 25) (v := ?_) (a' := ?_) #[true, true, true, true, true, true, true, false, true, false, false, false, false, false, false, false] rfl rfl (any_of HT_.out (by kernel_rfl)) (fun _ _ _ h => h) (Or.inl ⟨by rfl, ?_⟩) ?_ ?_
            rotate_left
            ·intro w'
             go_simp
             with_reducible rfl
            rotate_left
            ·simp only [Act.put, sb1, sb2, sb3, i64_w, i32_w]
             rfl
            refine pure_ (i := 12) (N := some 29) (v := ?_) (a' := ?_) #[true, true, true, true, true, true, true, false, true, false, false, false, true, false, false, false] rfl rfl (any_of HT_.out (by kernel_rfl)) (fun _ _ _ h => h) (Or.inl ⟨by rfl, ?_⟩) ?_ ?_
            rotate_left
            ·intro w'
             go_simp
             with_reducible rfl
            rotate_left
            ·simp only [Act.put, sb1, sb2, sb3, i64_w, i32_w]
             rfl
            refine take_ (i := 7) (N := some 24) (v := ?_) (a' := ?_) #[true, true, true, true, true, true, true, true, true, false, false, false, true, false, false, false] rfl rfl (take_ofW HT_.out HW_.out (by kernel_rfl)) (fun _ _ _ h => h) (Or.inl ⟨by rfl, ?_⟩) hHeld ?_ ?_
            rotate_left
            ·rintro w' ⟨s0, s1, s2, s3, s4⟩
             go_simp
             with_reducible rfl
            rotate_left
            ·simp only [Act.put, sb1, sb2, sb3, i64_w, i32_w]
             rfl
            refine pure_ (i := 9) (N := some 26) (v := ?_) (a' := ?_) #[true, true, true, true, true, true, true, true, true, true, false, false, true, false, false, false] rfl rfl (any_of HT_.out (by kernel_rfl)) (fun _ _ _ h => h) (Or.inl ⟨by rfl, ?_⟩) ?_ ?_
            rotate_left
            ·intro w'
             go_simp
             with_reducible rfl
            rotate_left
            ·simp only [Act.put, sb1, sb2, sb3, i64_w, i32_w]
             rfl
            refine pure_ (i := 10) (N := some 27) (v := ?_) (a' := ?_) #[true, true, true, true, true, true, true, true, true, true, true, false, true, false, false, false] rfl rfl (any_of HT_.out (by kernel_rfl)) (fun _ _ _ h => h) (Or.inl ⟨by rfl, ?_⟩) ?_ ?_
            rotate_left
            ·intro w'
             go_simp
             with_reducible rfl
            rotate_left
            ·simp only [Act.put, sb1, sb2, sb3, i64_w, i32_w]
             rfl
            refine take_ (i := 11) (N := some 28) (v := ?_) (a' := ?_) #[true, true, true, true, true, true, true, true, true, true, true, true, true, false, false, false] rfl rfl (take_ofW HT_.out HW_.out (by kernel_rfl)) (fun _ _ _ h => h) (Or.inl ⟨by rfl, ?_⟩) hHeld ?_ ?_
            rotate_left
            ·rintro w' ⟨s0, s1, s2, s3, s4⟩
             go_simp
             with_reducible rfl
            rotate_left
            ·simp only [Act.put, sb1, sb2, sb3, i64_w, i32_w]
             rfl
            refine take_ (i := 13) (N := some 30) (v := ?_) (a' := ?_) #[true, true, true, true, true, true, true, true, true, true, true, true, true, true, false, false] rfl rfl (take_ofW HT_.out HW_.out (by kernel_rfl)) (fun _ _ _ h => h) (Or.inl ⟨by rfl, ?_⟩) hHeld ?_ ?_
            rotate_left
            ·rintro w' ⟨s0, s1, s2, s3, s4⟩
             go_simp
             with_reducible rfl
            rotate_left
            ·simp only [Act.put, sb1, sb2, sb3, i64_w, i32_w]
             rfl
            refine pure_ (i := 14) (N := some 31) (v := ?_) (a' := ?_) #[true, true, true, true, true, true, true, true, true, true, true, true, true, true, true, false] rfl rfl (any_of HT_.out (by kernel_rfl)) (fun _ _ _ h => h) (Or.inl ⟨by rfl, ?_⟩) ?_ ?_
            rotate_left
            ·intro w'
             go_simp
             with_reducible rfl
            rotate_left
            ·simp only [Act.put, sb1, sb2, sb3, i64_w, i32_w]
             rfl
            refine pure_ (i := 15) (N := some 32) (v := ?_) (a' := ?_) #[true, true, true, true, true, true, true, true, true, true, true, true, true, true, true, true] rfl rfl (any_of HT_.out (by kernel_rfl)) (fun _ _ _ h => h) (Or.inl ⟨by rfl, ?_⟩) ?_ ?_
            rotate_left
            ·intro w'
             go_simp
             with_reducible rfl
            rotate_left
            ·simp only [Act.put, sb1, sb2, sb3, i64_w, i32_w]
             rfl
            refine done_ (done_of HT_.out (by kernel_rfl)) ?_
            try go_wp2
            go_meet
            case rel => exact ⟨_, (x6_2), (by first | rfl | (simp; done) | (simp [*]; done)), H', ⟨by have := HK1.out; have := HK2.out; first | omega | exact Nat.le_refl _⟩, ⟨by (with_reducible repeat (first | apply Kd.R_alloc | apply Kd.R_drewN | apply Kd.R_drew)); exact HO_5.out⟩, ⟨by (with_reducible repeat (first | refine kdn ?_ _ | refine kdr ?_ | refine kal ?_ _)); exact BK101.out⟩, ⟨by (with_reducible repeat (first | refine kdn ?_ _ | refine kdr ?_ | refine kal ?_ _)); exact BK102.out⟩, ⟨by (with_reducible repeat (first | refine kdn ?_ _ | refine kdr ?_ | refine kal ?_ _)); exact BK103.out⟩, ⟨by (with_reducible repeat (first | refine kdn ?_ _ | refine kdr ?_ | refine kal ?_ _)); exact BK105.out⟩, ⟨by repeat (first | (with_reducible first | exact HB.out | apply bal | apply bdn | apply bd1 | refine bst ?_ GE101.out | refine bst ?_ GE102.out | refine bst ?_ GE103.out | refine bst ?_ GE105.out) | exact HB.out)⟩⟩
          ·rw [if_neg c19] at H
           exact absurd H (by simp)
         ·rw [if_neg c18] at H
          have c18b0 : decide (x6_2 < (l1_0.length : Int)) = false := decide_eq_false c18
          clear c18
          (first | rw [c18b0] | (simp only [i64_w, i32_w]; rw [c18b0]) | skip)
          have H' := am H
          clear H
          try go_wp2
          have n0_ := am (Kd.R_drew HO_5.out)
          have n1_ := am (kdr BK101.out)
          have n2_ := am (kdr BK102.out)
          have n3_ := am (kdr BK103.out)
          have n4_ := am (kdr BK105.out)
          have n5_ := am (bd1 HB.out)
          clear HO_5
          clear BK101
          clear BK102
          clear BK103
          clear BK105
          clear HB
          have HO_5 := n0_
          have BK101 := n1_
          have BK102 := n2_
          have BK103 := n3_
          have BK105 := n4_
          have HB := n5_
          clear n0_ n1_ n2_ n3_ n4_ n5_
          refine start_ (n := 16) (S := fun w' => w'.cell? ⟨gb102, 0, none⟩ = some (.slice A1_0 l1_0.length c1_0)) (ds := []) #[false, false, false, false, false, false, false, false, false, false, false, false, false, false, false, false] (by kernel_rfl) rfl rfl ((bcl BK102.out 0).trans rfl) (fun hHeld => ?_); refine with_tabW ranges_Set_Less.tab6 ranges_Set_Less.bits6 (fun HT_ HW_ => ?_)
          generalize wr.drew = w23 at HO_5 BK101 BK102 BK103 BK105 HB hHeld ⊢
          refine pure_ (i := 0) (N := some 17) (v := ?_) (a' := ?_) #[true, false, false, false, false, false, false, false, false, false, false, false, false, false, false, false] rfl rfl (any_of HT_.out (by kernel_rfl)) (fun _ _ _ h => h) (Or.inl ⟨by rfl, ?_⟩) ?_ ?_
          rotate_left
          ·intro w'
           go_simp
           with_reducible rfl
          rotate_left
          ·simp only [Act.put, sb1, sb2, sb3, i64_w, i32_w]
           rfl
          refine pure_ (i := 1) (N := some 18) (v := ?_) (a' := ?_) #[true, true, false, false, false, false, false, false, false, false, false, false, false, false, false, false] rfl rfl (any_of HT_.out (by kernel_rfl)) (fun _ _ _ h => h) (Or.inl ⟨by rfl, ?_⟩) ?_ ?_
          rotate_left
          ·intro w'
           go_simp
           with_reducible rfl
          rotate_left
          ·simp only [Act.put, sb1, sb2, sb3, i64_w, i32_w]
           rfl
          refine take_ (i := 2) (N := some 19) (v := ?_) (a' := ?_) #[true, true, true, false, false, false, false, false, false, false, false, false, false, false, false, false] rfl rfl (take_ofW HT_.out HW_.out (by kernel_rfl)) (fun _ _ _ h => h) (Or.inl ⟨by rfl, ?_⟩) hHeld ?_ ?_
          rotate_left
          ·intro w' s0
           go_simp
           with_reducible rfl
          rotate_left
          ·simp only [Act.put, sb1, sb2, sb3, i64_w, i32_w]
           rfl
          refine pure_ (i := 3) (N := some 20) (v := ?_) (a' := ?_) #[true, true, true, true, false, false, false, false, false, false, false, false, false, false, false, false] rfl rfl (any_of HT_.out (by kernel_rfl)) (fun _ _ _ h => h) (Or.inl ⟨by rfl, ?_⟩) ?_ ?_
          rotate_left
          ·intro w'
           go_simp
           with_reducible rfl
          rotate_left
          ·simp only [Act.put, sb1, sb2, sb3, i64_w, i32_w]
           rfl
          refine pure_ (i := 4) (N := some 21) (v := ?_) (a' := ?_) #[true, true, true, true, true, false, false, false, false, false, false, false, false, false, false, false] rfl rfl (any_of HT_.out (by kernel_rfl)) (fun _ _ _ h => h) (Or.inl ⟨by rfl, ?_⟩) ?_ ?_
          rotate_left
          ·intro w'
           go_simp
           with_reducible rfl
          rotate_left
          ·simp only [Act.put, sb1, sb2, sb3, i64_w, i32_w]
           rfl
          refine pure_ (i := 5) (N := some 22) (v := ?_) (a' := ?_) #[true, true, true, true, true, true, false, false, false, false, false, false, false, false, false, false] rfl rfl (any_of HT_.out (by kernel_rfl)) (fun _ _ _ h => h) (Or.inl ⟨by rfl, ?_⟩) ?_ ?_
          rotate_left
          ·intro w'
           go_simp
           with_reducible rfl
          rotate_left
          ·simp only [Act.put, sb1, sb2, sb3, i64_w, i32_w]
           rfl
          refine pure_ (i := 6) (N := some 23) (v := undef) (a' := ?_) #[true, true, true, true, true, true, true, false, false, false, false, false, false, false, false, false] rfl rfl (any_of HT_.out (by kernel_rfl)) (fun _ _ _ h => h) (Or.inr ⟨by rfl, rfl⟩) ?_ ?_
          rotate_left
          ·simp only [Act.put, sb1, sb2, sb3, i64_w, i32_w]
           rfl
          refine pure_ (i := 7) (N := some 24) (v := undef) (a' := ?_) #[true, true, true, true, true, true, true, true, false, false, false, false, false, false, false, false] rfl rfl (any_of HT_.out (by kernel_rfl)) (fun _ _ _ h => h) (Or.inr ⟨by rfl, rfl⟩) ?_ ?_
          rotate_left
          ·simp only [Act.put, sb1, sb2, sb3, i64_w, i32_w]
           rfl
          refine pure_ (i := 8) (N := some 25) (v := undef) (a' := ?_) #[true, true, true, true, true, true, true, true, true, false, false, false, false, false, false, false] rfl rfl (any_of HT_.out (by kernel_rfl)) (fun _ _ _ h => h) (Or.inr ⟨by rfl, rfl⟩) ?_ ?_
          rotate_left
          ·simp only [Act.put, sb1, sb2, sb3, i64_w, i32_w]
           rfl
          refine pure_ (i := 9) (N := some 26) (v := undef) (a' := ?_) #[true, true, true, true, true, true, true, true, true, true, false, false, false, false, false, false] rfl rfl (any_of HT_.out (by kernel_rfl)) (fun _ _ _ h => h) (Or.inr ⟨by rfl, rfl⟩) ?_ ?_
          rotate_left
          ·simp only [Act.put, sb1, sb2, sb3, i64_w, i32_w]
           rfl
          refine pure_ (i := 10) (N := some 27) (v := undef) (a' := ?_) #[true, true, true, true, true, true, true, true, true, true, true, false, false, false, false, false] rfl rfl (any_of HT_.out (by kernel_rfl)) (fun _ _ _ h => h) (Or.inr ⟨by rfl, rfl⟩) ?_ ?_
          rotate_left
          ·simp only [Act.put, sb1, sb2, sb3, i64_w, i32_w]
           rfl
          refine pure_ (i := 11) (N := some 28) (v := undef) (a' := ?_) #[true, true, true, true, true, true, true, true, true, true, true, true, false, false, false, false] rfl rfl (any_of HT_.out (by kernel_rfl)) (fun _ _ _ h => h) (Or.inr ⟨by rfl, rfl⟩) ?_ ?_
          rotate_left
          ·simp only [Act.put, sb1, sb2, sb3, i64_w, i32_w]
           rfl
          refine pure_ (i := 12) (N := some 29) (v := undef) (a' := ?_) #[true, true, true, true, true, true, true, true, true, true, true, true, true, false, false, false] rfl rfl (any_of HT_.out (by kernel_rfl)) (fun _ _ _ h => h) (Or.inr ⟨by rfl, rfl⟩) ?_ ?_
          rotate_left
          ·simp only [Act.put, sb1, sb2, sb3, i64_w, i32_w]
           rfl
          refine pure_ (i := 13) (N := some 30) (v := undef) (a' := ?_) #[true, true, true, true, true, true, true, true, true, true, true, true, true, true, false, false] rfl rfl (any_of HT_.out (by kernel_rfl)) (fun _ _ _ h => h) (Or.inr ⟨by rfl, rfl⟩) ?_ ?_
          rotate_left
          ·simp only [Act.put, sb1, sb2, sb3, i64_w, i32_w]
           rfl
          refine pure_ (i := 14) (N := some 31) (v := undef) (a' := ?_) #[true, true, true, true, true, true, true, true, true, true, true, true, true, true, true, false] rfl rfl (any_of HT_.out (by kernel_rfl)) (fun _ _ _ h => h) (Or.inr ⟨by rfl, rfl⟩) ?_ ?_
          rotate_left
          ·simp only [Act.put, sb1, sb2, sb3, i64_w, i32_w]
           rfl
          refine pure_ (i := 15) (N := some 32) (v := ?_) (a' := ?_) #[true, true, true, true, true, true, true, true, true, true, true, true, true, true, true, true] rfl rfl (any_of HT_.out (by kernel_rfl)) (fun _ _ _ h => h) (Or.inl ⟨by rfl, ?_⟩) ?_ ?_
          rotate_left
          ·intro w'
           go_simp
           with_reducible rfl
          rotate_left
          ·simp only [Act.put, sb1, sb2, sb3, i64_w, i32_w]
           rfl
          refine done_ (done_of HT_.out (by kernel_rfl)) ?_
          try go_wp2
          go_meet
          case rel => exact ⟨_, (x6_2), (by first | rfl | (simp; done) | (simp [*]; done)), H', ⟨by have := HK1.out; have := HK2.out; first | omega | exact Nat.le_refl _⟩, ⟨by (with_reducible repeat (first | apply Kd.R_alloc | apply Kd.R_drewN | apply Kd.R_drew)); exact HO_5.out⟩, ⟨by (with_reducible repeat (first | refine kdn ?_ _ | refine kdr ?_ | refine kal ?_ _)); exact BK101.out⟩, ⟨by (with_reducible repeat (first | refine kdn ?_ _ | refine kdr ?_ | refine kal ?_ _)); exact BK102.out⟩, ⟨by (with_reducible repeat (first | refine kdn ?_ _ | refine kdr ?_ | refine kal ?_ _)); exact BK103.out⟩, ⟨by (with_reducible repeat (first | refine kdn ?_ _ | refine kdr ?_ | refine kal ?_ _)); exact BK105.out⟩, ⟨by repeat (first | (with_reducible first | exact HB.out | apply bal | apply bdn | apply bd1 | refine bst ?_ GE101.out | refine bst ?_ GE102.out | refine bst ?_ GE103.out | refine bst ?_ GE105.out) | exact HB.out)⟩⟩
      case rest =>
       clear HC12
       try clear c1
       try clear p1
       try clear q1
       try clear hx1
       try clear c2
       try clear p2
       try clear c3
       try clear c6
       try clear p6
       try clear c7
       try clear c9
       try clear c9b0
       try clear c10
       try clear c10b0
       try clear p10
       try clear q10
       try clear hx10
       try clear c11
       try clear c11b0
       try clear c14
       try clear c15
       try clear c16
       try clear c18
       try clear c18b0
       try clear c19
       try clear c19b0
       try clear c20
       try clear c20b0
       try clear hcz17_0
       try clear hcz17_1
       try clear hcz8_0
       try clear hfz17_0
       try clear hfz17_1
       try clear hfz8_0
       try clear hx104_0
       try clear hx104_1
       try clear hx106_0
       try clear hx106_1
       try clear p1
       try clear p10
       try clear p104
       try clear p106
       try clear p2
       try clear q1
       try clear q10
       try clear q104
       try clear q106
       obtain ⟨kq, x6_11, rfl, HA, HJ11, HO_5, BK101, BK102, BK103, BK105, HB⟩ := hcut
       cases kq with
       | zero => exact absurd HA.out (by simp [ranges_Set_Less.j2])
       | succ kj11 =>
        have H := HA.out
        clear HA
        simp only [ranges_Set_Less.j2] at H
        have H' := am H
        clear H
        go_wp2
        go_loopg [5, 9] kj11 (fun kq v5 v9 w' => ∃ (x5_3 : List (S42)) (x9_3 : Int) (x106000_3 : Int), v9 = .int .i64 x9_3 ∧ Aside0 (ranges_Set_Less.l2 kq x5_3 x6_11 x9_3 l0_0 (l0_0.length : Int) x13_1 l1_0 x106000_3 ((rd_T42 l0_0 x13_1).f1) = some r) ∧ Aside0 (kq ≤ kj11) ∧ Aside0 (Kd.R k42 42 w' w.heap.size (fun k_ => k_ ≠ gb105) v5 x5_3) ∧ Aside0 (w'.heap[gb101]? = some (.cells #[(.slice (some ad104) l0_0.length c0_0)] 29 (0, 0))) ∧ Aside0 (w'.heap[gb102]? = some (.cells #[(.slice A1_0 l1_0.length c1_0)] 29 (0, 0))) ∧ Aside0 (w'.heap[gb103]? = some (.cells #[(.slice none 0 0)] 29 (0, 0))) ∧ Aside0 (w'.heap[gb105]? = some (.cells #[.int .i64 x106000_3, .int .i64 ((rd_T42 l0_0 x13_1).f1)] 42 (0, 0))) ∧ Aside0 (Below w.heap.size w w'))
        case atStart => exact ⟨(x5_1), (x6_11), (((rd_T42 l0_0 x13_1).f0)), (by first | rfl | (simp; done) | (simp [*]; done)), H', ⟨Nat.le_refl _⟩, ⟨by (with_reducible repeat (first | apply Kd.R_alloc | apply Kd.R_drewN | apply Kd.R_drew)); exact HO_5.out⟩, ⟨by (with_reducible repeat (first | refine kdn ?_ _ | refine kdr ?_ | refine kal ?_ _)); exact BK101.out⟩, ⟨by (with_reducible repeat (first | refine kdn ?_ _ | refine kdr ?_ | refine kal ?_ _)); exact BK102.out⟩, ⟨by (with_reducible repeat (first | refine kdn ?_ _ | refine kdr ?_ | refine kal ?_ _)); exact BK103.out⟩, ⟨by (with_reducible repeat (first | refine kdn ?_ _ | refine kdr ?_ | refine kal ?_ _)); exact BK105.out⟩, ⟨by repeat (first | (with_reducible first | exact HB.out | apply bal | apply bdn | apply bd1 | refine bst ?_ GE101.out | refine bst ?_ GE102.out | refine bst ?_ GE103.out | refine bst ?_ GE105.out) | exact HB.out)⟩⟩
        case round =>
         clear H'
         try clear c1
         try clear p1
         try clear q1
         try clear hx1
         try clear c2
         try clear p2
         try clear c3
         try clear c6
         try clear p6
         try clear c7
         try clear c9
         try clear c9b0
         try clear c10
         try clear c10b0
         try clear p10
         try clear q10
         try clear hx10
         try clear c11
         try clear c11b0
         try clear c14
         try clear c15
         try clear c16
         try clear c18
         try clear c18b0
         try clear c19
         try clear c19b0
         try clear c20
         try clear c20b0
         try clear hcz17_0
         try clear hcz17_1
         try clear hcz8_0
         try clear hfz17_0
         try clear hfz17_1
         try clear hfz8_0
         try clear hx104_0
         try clear hx104_1
         try clear hx106_0
         try clear hx106_1
         try clear p1
         try clear p10
         try clear p104
         try clear p106
         try clear p2
         try clear p6
         try clear q1
         try clear q10
         try clear q104
         try clear q106
         obtain ⟨x5_3, x9_3, x106000_3, rfl, HA, HK3, HO_5, BK101, BK102, BK103, BK105, HB⟩ := hrel
         cases gk with
         | zero => exact absurd HA.out (by simp [ranges_Set_Less.l2])
         | succ k3 =>
          have H := HA.out
          clear HA
          simp only [ranges_Set_Less.l2] at H
          have HC24 := am H
          clear H
          go_upto_region 9 with (fail)
          go_cut [51] (fun v51 wc => ∃ (kq : Nat) (x51_23 : Bool), v51 = .bool x51_23 ∧ Aside0 (ranges_Set_Less.j4 kq x5_3 x6_11 x9_3 l0_0 (l0_0.length : Int) x13_1 x51_23 l1_0 x106000_3 ((rd_T42 l0_0 x13_1).f1) = some r) ∧ Aside0 (kq ≤ k3) ∧ Aside0 (Kd.R k42 42 wc w.heap.size (fun k_ => k_ ≠ gb105) u5 x5_3) ∧ Aside0 (wc.heap[gb101]? = some (.cells #[(.slice (some ad104) l0_0.length c0_0)] 29 (0, 0))) ∧ Aside0 (wc.heap[gb102]? = some (.cells #[(.slice A1_0 l1_0.length c1_0)] 29 (0, 0))) ∧ Aside0 (wc.heap[gb103]? = some (.cells #[(.slice none 0 0)] 29 (0, 0))) ∧ Aside0 (wc.heap[gb105]? = some (.cells #[.int .i64 x106000_3, .int .i64 ((rd_T42 l0_0 x13_1).f1)] 42 (0, 0))) ∧ Aside0 (Below w.heap.size w wc))
          case first =>
           have H := HC24.out
           clear HC24
           by_cases c25 : x9_3 < (l1_0.length : Int)
           ·rw [if_pos c25] at H
            have c25b0 : decide (x9_3 < (l1_0.length : Int)) = true := decide_eq_true c25
            clear c25
            (first | rw [c25b0] | (simp only [i64_w, i32_w]; rw [c25b0]) | skip)
            by_cases c26 : 0 ≤ x9_3
            ·rw [if_pos c26] at H
             have c26b0 : decide (0 ≤ x9_3) = true := decide_eq_true c26
             clear c26
             have H' := am H
             clear H
             try go_wp2
             have n0_ := am (Kd.R_drew HO_5.out)
             have n1_ := am (kdr BK101.out)
             have n2_ := am (kdr BK102.out)
             have n3_ := am (kdr BK103.out)
             have n4_ := am (kdr BK105.out)
             have n5_ := am (bd1 HB.out)
             clear HO_5
             clear BK101
             clear BK102
             clear BK103
             clear BK105
             clear HB
             have HO_5 := n0_
             have BK101 := n1_
             have BK102 := n2_
             have BK103 := n3_
             have BK105 := n4_
             have HB := n5_
             clear n0_ n1_ n2_ n3_ n4_ n5_
             have p107 : 0 ≤ (x9_3 : Int) := of_decide_eq_true (by first | (with_reducible assumption) | assumption)
             have q107 : x9_3 < (l1_0.length : Int) := of_decide_eq_true (by first | (with_reducible assumption) | assumption)
             obtain ⟨ad107, e107, hx107_0, hx107_1⟩ := at_T42 HR1_0.out x9_3 p107 q107
             have hw107_1 := hx107_1
             have hw107_0 := hx107_0
             cases e107
             replace hx107_0 := (HB.out.cell (World.block_lt_of_cell? w _ hx107_0)).trans hx107_0
             replace hx107_1 := (HB.out.cell (World.block_lt_of_cell? w _ hx107_1)).trans hx107_1
             replace p107 := eq_true p107
             replace q107 := eq_true q107
             refine start_ (n := 16) (S := fun w' => w'.cell? ⟨gb102, 0, none⟩ = some (.slice (some ad107) l1_0.length c1_0) ∧ w'.cell? ⟨gb105, 0, none⟩ = some (.int .i64 x106000_3) ∧ w'.cell? ⟨gb105, 1, none⟩ = some (.int .i64 ((rd_T42 l0_0 x13_1).f1)) ∧ w'.cell? (ad107.add ((x9_3).toNat * 2)) = some (.int .i64 ((rd_T42 l1_0 x9_3).f0)) ∧ w'.cell? ⟨(ad107.add ((x9_3).toNat * 2)).block, (ad107.add ((x9_3).toNat * 2)).off + 1, none⟩ = some (.int .i64 ((rd_T42 l1_0 x9_3).f1))) (ds := []) #[false, false, false, false, false, false, false, false, false, false, false, false, false, false, false, false] (by kernel_rfl) rfl rfl ⟨(bcl BK102.out 0).trans rfl, (bcl BK105.out 0).trans rfl, (bcl BK105.out 1).trans rfl, ((HB.out.cell (World.block_lt_of_cell? w _ hw107_0)).trans hw107_0), ((HB.out.cell (World.block_lt_of_cell? w _ hw107_1)).trans hw107_1)⟩ (fun hHeld => ?_); refine with_tabW ranges_Set_Less.tab9 ranges_Set_Less.bits9 (fun HT_ HW_ => ?_)
             generalize wr.drew = w27 at HO_5 BK101 BK102 BK103 BK105 HB hx107_0 hx107_1 hHeld ⊢
             refine pure_ (i := 0) (N := some 36) (v := ?_) (a' := ?_) #[true, false, false, false, false, false, false, false, false, false, false, false, false, false, false, false] rfl rfl (any_of HT_.out (by kernel_rfl)) (fun _ _ _ h => h) (Or.inl ⟨by rfl, ?_⟩) ?_ ?_
             rotate_left
             ·intro w'
              go_simp
              with_reducible rfl
             rotate_left
             ·simp only [Act.put, sb1, sb2, sb3, i64_w, i32_w]
              rfl
             refine pure_ (i := 1) (N := some 37) (v := ?_) (a' := ?_) #[true, true, false, false, false, false, false, false, false, false, false, false, false, false, false, false] rfl rfl (any_of HT_.out (by kernel_rfl)) (fun _ _ _ h => h) (Or.inl ⟨by rfl, ?_⟩) ?_ ?_
             rotate_left
             ·intro w'
              go_simp
              with_reducible rfl
             rotate_left
             ·simp only [Act.put, sb1, sb2, sb3, i64_w, i32_w]
              rfl
             refine take_ (i := 2) (N := some 38) (v := ?_) (a' := ?_) #[true, true, true, false, false, false, false, false, false, false, false, false, false, false, false, false] rfl rfl (take_ofW HT_.out HW_.out (by kernel_rfl)) (fun _ _ _ h => h) (Or.inl ⟨by rfl, ?_⟩) hHeld ?_ ?_
             rotate_left
             ·rintro w' ⟨s0, s1, s2, s3, s4⟩
              go_simp
              with_reducible rfl
             rotate_left
             ·simp only [Act.put, sb1, sb2, sb3, i64_w, i32_w]
              rfl
             refine pure_ (i := 3) (N := some 39) (v := ?_) (a' := ?_) #[true, true, true, true, false, false, false, false, false, false, false, false, false, false, false, false] rfl rfl (any_of HT_.out (by kernel_rfl)) (fun _ _ _ h => h) (Or.inl ⟨by rfl, ?_⟩) ?_ ?_
             rotate_left
             ·intro w'
              go_simp
              with_reducible rfl
             rotate_left
             ·simp only [Act.put, sb1, sb2, sb3, i64_w, i32_w]
              rfl
             refine pure_ (i := 4) (N := some 40) (v := ?_) (a' := ?_) #[true, true, true, true, true, false, false, false, false, false, false, false, false, false, false, false] rfl rfl (any_of HT_.out (by kernel_rfl)) (fun _ _ _ h => h) (Or.inl ⟨by rfl, ?_⟩) ?_ ?_
             rotate_left
             ·intro w'
              go_simp
              with_reducible rfl
             rotate_left
             ·simp only [Act.put, sb1, sb2, sb3, i64_w, i32_w]
              rfl
             refine pure_ (i := 5) (N := some 41) (v := ?_) (a' := ?_) #[true, true, true, true, true, true, false, false, false, false, false, false, false, false, false, false] rfl rfl (any_of HT_.out (by kernel_rfl)) (fun _ _ _ h => h) (Or.inl ⟨by rfl, ?_⟩) ?_ ?_
             rotate_left
             ·intro w'
              go_simp
              with_reducible rfl
             rotate_left
             ·simp only [Act.put, sb1, sb2, sb3, i64_w, i32_w]
              rfl
             refine pure_ (i := 6) (N := some 42) (v := ?_) (a' := ?_) #[true, true, true, true, true, true, true, false, false, false, false, false, false, false, false, false] rfl rfl (any_of HT_.out (by kernel_rfl)) (fun _ _ _ h => h) (Or.inl ⟨by rfl, ?_⟩) ?_ ?_
             rotate_left
             ·intro w'
              go_simp
              with_reducible rfl
             rotate_left
             ·simp only [Act.put, sb1, sb2, sb3, i64_w, i32_w]
              rfl
             refine pure_ (i := 8) (N := some 44) (v := ?_) (a' := ?_) #[true, true, true, true, true, true, true, false, true, false, false, false, false, false, false, false] rfl rfl (any_of HT_.out (by kernel_rfl)) (fun _ _ _ h => h) (Or.inl ⟨by rfl, ?_⟩) ?_ ?_
             rotate_left
             ·intro w'
              go_simp
              with_reducible rfl
             rotate_left
             ·simp only [Act.put, sb1, sb2, sb3, i64_w, i32_w]
              rfl
             refine pure_ (i := 12) (N := some 48) (v := ?_) (a' := ?_) #[true, true, true, true, true, true, true, false, true, false, false, false, true, false, false, false] rfl rfl (any_of HT_.out (by kernel_rfl)) (fun _ _ _ h => h) (Or.inl ⟨by rfl, ?_⟩) ?_ ?_
             rotate_left
             ·intro w'
              go_simp
              with_reducible rfl
             rotate_left
             ·simp only [Act.put, sb1, sb2, sb3, i64_w, i32_w]
              rfl
             refine take_ (i := 7) (N := some 43) (v := ?_) (a' := ?_) #[true, true, true, true, true, true, true, true, true, false, false, false, true, false, false, false] rfl rfl (take_ofW HT_.out HW_.out (by kernel_rfl)) (fun _ _ _ h => h) (Or.inl ⟨by rfl, ?_⟩) hHeld ?_ ?_
             rotate_left
             ·rintro w' ⟨s0, s1, s2, s3, s4⟩
              go_simp
              with_reducible rfl
             rotate_left
             ·simp only [Act.put, sb1, sb2, sb3, i64_w, i32_w]
              rfl
             refine pure_ (i := 9) (N := some 45) (v := ?_) (a' := ?_) #[true, true, true, true, true, true, true, true, true, true, false, false, true, false, false, false] rfl rfl (any_of HT_.out (by kernel_rfl)) (fun _ _ _ h => h) (Or.inl ⟨by rfl, ?_⟩) ?_ ?_
             rotate_left
             ·intro w'
              go_simp
              with_reducible rfl
             rotate_left
             ·simp only [Act.put, sb1, sb2, sb3, i64_w, i32_w]
              rfl
             refine pure_ (i := 10) (N := some 46) (v := ?_) (a' := ?_) #[true, true, true, true, true, true, true, true, true, true, true, false, true, false, false, false] rfl rfl (any_of HT_.out (by kernel_rfl)) (fun _ _ _ h => h) (Or.inl ⟨by rfl, ?_⟩) ?_ ?_
             rotate_left
             ·intro w'
              go_simp
              with_reducible rfl
             rotate_left
             ·simp only [Act.put, sb1, sb2, sb3, i64_w, i32_w]
              rfl
             refine take_ (i := 11) (N := some 47) (v := ?_) (a' := ?_) #[true, true, true, true, true, true, true, true, true, true, true, true, true, false, false, false] rfl rfl (take_ofW HT_.out HW_.out (by kernel_rfl)) (fun _ _ _ h => h) (Or.inl ⟨by rfl, ?_⟩) hHeld ?_ ?_
             rotate_left
             ·rintro w' ⟨s0, s1, s2, s3, s4⟩
              go_simp
              with_reducible rfl
             rotate_left
             ·simp only [Act.put, sb1, sb2, sb3, i64_w, i32_w]
              rfl
             refine take_ (i := 13) (N := some 49) (v := ?_) (a' := ?_) #[true, true, true, true, true, true, true, true, true, true, true, true, true, true, false, false] rfl rfl (take_ofW HT_.out HW_.out (by kernel_rfl)) (fun _ _ _ h => h) (Or.inl ⟨by rfl, ?_⟩) hHeld ?_ ?_
             rotate_left
             ·rintro w' ⟨s0, s1, s2, s3, s4⟩
              go_simp
              with_reducible rfl
             rotate_left
             ·simp only [Act.put, sb1, sb2, sb3, i64_w, i32_w]
              rfl
             refine pure_ (i := 14) (N := some 50) (v := ?_) (a' := ?_) #[true, true, true, true, true, true, true, true, true, true, true, true, true, true, true, false] rfl rfl (any_of HT_.out (by kernel_rfl)) (fun _ _ _ h => h) (Or.inl ⟨by rfl, ?_⟩) ?_ ?_
             rotate_left
             ·intro w'
              go_simp
              with_reducible rfl
             rotate_left
             ·simp only [Act.put, sb1, sb2, sb3, i64_w, i32_w]
              rfl
             refine pure_ (i := 15) (N := some 51) (v := ?_) (a' := ?_) #[true, true, true, true, true, true, true, true, true, true, true, true, true, true, true, true] rfl rfl (any_of HT_.out (by kernel_rfl)) (fun _ _ _ h => h) (Or.inl ⟨by rfl, ?_⟩) ?_ ?_
             rotate_left
             ·intro w'
              go_simp
              with_reducible rfl
             rotate_left
             ·simp only [Act.put, sb1, sb2, sb3, i64_w, i32_w]
              rfl
             refine done_ (done_of HT_.out (by kernel_rfl)) ?_
             try go_wp2
             go_meet
             case rel => exact ⟨_, (decide (((rd_T42 l1_0 x9_3).f0) < ((rd_T42 l0_0 x13_1).f1))), (by first | rfl | (simp; done) | (simp [*]; done)), H', ⟨by have := HK1.out; have := HJ11.out; have := HK3.out; first | omega | exact Nat.le_refl _⟩, ⟨by (with_reducible repeat (first | apply Kd.R_alloc | apply Kd.R_drewN | apply Kd.R_drew)); exact HO_5.out⟩, ⟨by (with_reducible repeat (first | refine kdn ?_ _ | refine kdr ?_ | refine kal ?_ _)); exact BK101.out⟩, ⟨by (with_reducible repeat (first | refine kdn ?_ _ | refine kdr ?_ | refine kal ?_ _)); exact BK102.out⟩, ⟨by (with_reducible repeat (first | refine kdn ?_ _ | refine kdr ?_ | refine kal ?_ _)); exact BK103.out⟩, ⟨by (with_reducible repeat (first | refine kdn ?_ _ | refine kdr ?_ | refine kal ?_ _)); exact BK105.out⟩, ⟨by repeat (first | (with_reducible first | exact HB.out | apply bal | apply bdn | apply bd1 | refine bst ?_ GE101.out | refine bst ?_ GE102.out | refine bst ?_ GE103.out | refine bst ?_ GE105.out) | exact HB.out)⟩⟩
            ·rw [if_neg c26] at H
             exact absurd H (by simp)
           ·rw [if_neg c25] at H
            have c25b0 : decide (x9_3 < (l1_0.length : Int)) = false := decide_eq_false c25
            clear c25
            (first | rw [c25b0] | (simp only [i64_w, i32_w]; rw [c25b0]) | skip)
            have H' := am H
            clear H
            try go_wp2
            have n0_ := am (Kd.R_drew HO_5.out)
            have n1_ := am (kdr BK101.out)
            have n2_ := am (kdr BK102.out)
            have n3_ := am (kdr BK103.out)
            have n4_ := am (kdr BK105.out)
            have n5_ := am (bd1 HB.out)
            clear HO_5
            clear BK101
            clear BK102
            clear BK103
            clear BK105
            clear HB
            have HO_5 := n0_
            have BK101 := n1_
            have BK102 := n2_
            have BK103 := n3_
            have BK105 := n4_
            have HB := n5_
            clear n0_ n1_ n2_ n3_ n4_ n5_
            refine start_ (n := 16) (S := fun w' => w'.cell? ⟨gb102, 0, none⟩ = some (.slice A1_0 l1_0.length c1_0)) (ds := []) #[false, false, false, false, false, false, false, false, false, false, false, false, false, false, false, false] (by kernel_rfl) rfl rfl ((bcl BK102.out 0).trans rfl) (fun hHeld => ?_); refine with_tabW ranges_Set_Less.tab9 ranges_Set_Less.bits9 (fun HT_ HW_ => ?_)
            generalize wr.drew = w28 at HO_5 BK101 BK102 BK103 BK105 HB hHeld ⊢
            refine pure_ (i := 0) (N := some 36) (v := ?_) (a' := ?_) #[true, false, false, false, false, false, false, false, false, false, false, false, false, false, false, false] rfl rfl (any_of HT_.out (by kernel_rfl)) (fun _ _ _ h => h) (Or.inl ⟨by rfl, ?_⟩) ?_ ?_
            rotate_left
            ·intro w'
             go_simp
             with_reducible rfl
            rotate_left
            ·simp only [Act.put, sb1, sb2, sb3, i64_w, i32_w]
             rfl
            refine pure_ (i := 1) (N := some 37) (v := ?_) (a' := ?_) #[true, true, false, false, false, false, false, false, false, false, false, false, false, false, false, false] rfl rfl (any_of HT_.out (by kernel_rfl)) (fun _ _ _ h => h) (Or.inl ⟨by rfl, ?_⟩) ?_ ?_
            rotate_left
            ·intro w'
             go_simp
             with_reducible rfl
            rotate_left
            ·simp only [Act.put, sb1, sb2, sb3, i64_w, i32_w]
             rfl
            refine take_ (i := 2) (N := some 38) (v := ?_) (a' := ?_) #[true, true, true, false, false, false, false, false, false, false, false, false, false, false, false, false] rfl rfl (take_ofW HT_.out HW_.out (by kernel_rfl)) (fun _ _ _ h => h) (Or.inl ⟨by rfl, ?_⟩) hHeld ?_ ?_
            rotate_left
            ·intro w' s0
             go_simp
             with_reducible rfl
            rotate_left
            ·simp only [Act.put, sb1, sb2, sb3, i64_w, i32_w]
             rfl
            refine pure_ (i := 3) (N := some 39) (v := ?_) (a' := ?_) #[true, true, true, true, false, false, false, false, false, false, false, false, false, false, false, false] rfl rfl (any_of HT_.out (by kernel_rfl)) (fun _ _ _ h => h) (Or.inl ⟨by rfl, ?_⟩) ?_ ?_
            rotate_left
            ·intro w'
             go_simp
             with_reducible rfl
            rotate_left
            ·simp only [Act.put, sb1, sb2, sb3, i64_w, i32_w]
             rfl
            refine pure_ (i := 4) (N := some 40) (v := ?_) (a' := ?_) #[true, true, true, true, true, false, false, false, false, false, false, false, false, false, false, false] rfl rfl (any_of HT_.out (by kernel_rfl)) (fun _ _ _ h => h) (Or.inl ⟨by rfl, ?_⟩) ?_ ?_
            rotate_left
            ·intro w'
             go_simp
             with_reducible rfl
            rotate_left
            ·simp only [Act.put, sb1, sb2, sb3, i64_w, i32_w]
             rfl
            refine pure_ (i := 5) (N := some 41) (v := ?_) (a' := ?_) #[true, true, true, true, true, true, false, false, false, false, false, false, false, false, false, false] rfl rfl (any_of HT_.out (by kernel_rfl)) (fun _ _ _ h => h) (Or.inl ⟨by rfl, ?_⟩) ?_ ?_
            rotate_left
            ·intro w'
             go_simp
             with_reducible rfl
            rotate_left
            ·simp only [Act.put, sb1, sb2, sb3, i64_w, i32_w]
             rfl
            refine pure_ (i := 6) (N := some 42) (v := undef) (a' := ?_) #[true, true, true, true, true, true, true, false, false, false, false, false, false, false, false, false] rfl rfl (any_of HT_.out (by kernel_rfl)) (fun _ _ _ h => h) (Or.inr ⟨by rfl, rfl⟩) ?_ ?_
            rotate_left
            ·simp only [Act.put, sb1, sb2, sb3, i64_w, i32_w]
             rfl
            refine pure_ (i := 7) (N := some 43) (v := undef) (a' := ?_) #[true, true, true, true, true, true, true, true, false, false, false, false, false, false, false, false] rfl rfl (any_of HT_.out (by kernel_rfl)) (fun _ _ _ h => h) (Or.inr ⟨by rfl, rfl⟩) ?_ ?_
            rotate_left
            ·simp only [Act.put, sb1, sb2, sb3, i64_w, i32_w]
             rfl
            refine pure_ (i := 8) (N := some 44) (v := undef) (a' := ?_) #[true, true, true, true, true, true, true, true, true, false, false, false, false, false, false, false] rfl rfl (any_of HT_.out (by kernel_rfl)) (fun _ _ _ h => h) (Or.inr ⟨by rfl, rfl⟩) ?_ ?_
            rotate_left
            ·simp only [Act.put, sb1, sb2, sb3, i64_w, i32_w]
             rfl
            refine pure_ (i := 9) (N := some 45) (v := undef) (a' := ?_) #[true, true, true, true, true, true, true, true, true, true, false, false, false, false, false, false] rfl rfl (any_of HT_.out (by kernel_rfl)) (fun _ _ _ h => h) (Or.inr ⟨by rfl, rfl⟩) ?_ ?_
            rotate_left
            ·simp only [Act.put, sb1, sb2, sb3, i64_w, i32_w]
             rfl
            refine pure_ (i := 10) (N := some 46) (v := undef) (a' := ?_) #[true, true, true, true, true, true, true, true, true, true, true, false, false, false, false, false] rfl rfl (any_of HT_.out (by kernel_rfl)) (fun _ _ _ h => h) (Or.inr ⟨by rfl, rfl⟩) ?_ ?_
            rotate_left
            ·simp only [Act.put, sb1, sb2, sb3, i64_w, i32_w]
             rfl
            refine pure_ (i := 11) (N := some 47) (v := undef) (a' := ?_) #[true, true, true, true, true, true, true, true, true, true, true, true, false, false, false, false] rfl rfl (any_of HT_.out (by kernel_rfl)) (fun _ _ _ h => h) (Or.inr ⟨by rfl, rfl⟩) ?_ ?_
            rotate_left
            ·simp only [Act.put, sb1, sb2, sb3, i64_w, i32_w]
             rfl
            refine pure_ (i := 12) (N := some 48) (v := undef) (a' := ?_) #[true, true, true, true, true, true, true, true, true, true, true, true, true, false, false, false] rfl rfl (any_of HT_.out (by kernel_rfl)) (fun _ _ _ h => h) (Or.inr ⟨by rfl, rfl⟩) ?_ ?_
            rotate_left
            ·simp only [Act.put, sb1, sb2, sb3, i64_w, i32_w]
             rfl
            refine pure_ (i := 13) (N := some 49) (v := undef) (a' := ?_) #[true, true, true, true, true, true, true, true, true, true, true, true, true, true, false, false] rfl rfl (any_of HT_.out (by kernel_rfl)) (fun _ _ _ h => h) (Or.inr ⟨by rfl, rfl⟩) ?_ ?_
            rotate_left
            ·simp only [Act.put, sb1, sb2, sb3, i64_w, i32_w]
             rfl
            refine pure_ (i := 14) (N := some 50) (v := undef) (a' := ?_) #[true, true, true, true, true, true, true, true, true, true, true, true, true, true, true, false] rfl rfl (any_of HT_.out (by kernel_rfl)) (fun _ _ _ h => h) (Or.inr ⟨by rfl, rfl⟩) ?_ ?_
            rotate_left
            ·simp only [Act.put, sb1, sb2, sb3, i64_w, i32_w]
             rfl
            refine pure_ (i := 15) (N := some 51) (v := ?_) (a' := ?_) #[true, true, true, true, true, true, true, true, true, true, true, true, true, true, true, true] rfl rfl (any_of HT_.out (by kernel_rfl)) (fun _ _ _ h => h) (Or.inl ⟨by rfl, ?_⟩) ?_ ?_
            rotate_left
            ·intro w'
             go_simp
             with_reducible rfl
            rotate_left
            ·simp only [Act.put, sb1, sb2, sb3, i64_w, i32_w]
             rfl
            refine done_ (done_of HT_.out (by kernel_rfl)) ?_
            try go_wp2
            go_meet
            case rel => exact ⟨_, (false), (by first | rfl | (simp; done) | (simp [*]; done)), H', ⟨by have := HK1.out; have := HJ11.out; have := HK3.out; first | omega | exact Nat.le_refl _⟩, ⟨by (with_reducible repeat (first | apply Kd.R_alloc | apply Kd.R_drewN | apply Kd.R_drew)); exact HO_5.out⟩, ⟨by (with_reducible repeat (first | refine kdn ?_ _ | refine kdr ?_ | refine kal ?_ _)); exact BK101.out⟩, ⟨by (with_reducible repeat (first | refine kdn ?_ _ | refine kdr ?_ | refine kal ?_ _)); exact BK102.out⟩, ⟨by (with_reducible repeat (first | refine kdn ?_ _ | refine kdr ?_ | refine kal ?_ _)); exact BK103.out⟩, ⟨by (with_reducible repeat (first | refine kdn ?_ _ | refine kdr ?_ | refine kal ?_ _)); exact BK105.out⟩, ⟨by repeat (first | (with_reducible first | exact HB.out | apply bal | apply bdn | apply bd1 | refine bst ?_ GE101.out | refine bst ?_ GE102.out | refine bst ?_ GE103.out | refine bst ?_ GE105.out) | exact HB.out)⟩⟩
          case rest =>
           clear HC24
           try clear c1
           try clear p1
           try clear q1
           try clear hx1
           try clear c2
           try clear p2
           try clear c3
           try clear c6
           try clear p6
           try clear c7
           try clear c9
           try clear c9b0
           try clear c10
           try clear c10b0
           try clear p10
           try clear q10
           try clear hx10
           try clear c11
           try clear c11b0
           try clear c14
           try clear c15
           try clear c16
           try clear c18
           try clear c18b0
           try clear c19
           try clear c19b0
           try clear c20
           try clear c20b0
           try clear c25
           try clear c25b0
           try clear c26
           try clear c26b0
           try clear hcz17_0
           try clear hcz17_1
           try clear hcz8_0
           try clear hfz17_0
           try clear hfz17_1
           try clear hfz8_0
           try clear hx104_0
           try clear hx104_1
           try clear hx106_0
           try clear hx106_1
           try clear hx107_0
           try clear hx107_1
           try clear p1
           try clear p10
           try clear p104
           try clear p106
           try clear p107
           try clear p2
           try clear p6
           try clear q1
           try clear q10
           try clear q104
           try clear q106
           try clear q107
           obtain ⟨kq, x51_23, rfl, HA, HJ23, HO_5, BK101, BK102, BK103, BK105, HB⟩ := hcut
           cases kq with
           | zero => exact absurd HA.out (by simp [ranges_Set_Less.j4])
           | succ kj23 =>
            have H := HA.out
            clear HA
            simp only [ranges_Set_Less.j4] at H
            by_cases c29 : x51_23 = true
            ·subst c29
             have H1 : (if 0 ≤ x9_3 then (if x9_3 < (l1_0.length : Int) then (if ((rd_T42 l1_0 x9_3).f0) > x106000_3 then (if x5_3.length < 8796093022208 then (ranges_Set_Less.l2 kj23 (x5_3 ++ [(⟨x106000_3, (rd_T42 l1_0 x9_3).f0⟩ : S42)]) x6_11 (wrap64 (x9_3 + 1)) l0_0 (l0_0.length : Int) x13_1 l1_0 (mn ((rd_T42 l1_0 x9_3).f1) ((rd_T42 l0_0 x13_1).f1)) ((rd_T42 l0_0 x13_1).f1)) else (none)) else (ranges_Set_Less.l2 kj23 x5_3 x6_11 (wrap64 (x9_3 + 1)) l0_0 (l0_0.length : Int) x13_1 l1_0 (mn ((rd_T42 l1_0 x9_3).f1) ((rd_T42 l0_0 x13_1).f1)) ((rd_T42 l0_0 x13_1).f1))) else (none)) else (none)) = some r := by rw [if_pos rfl] at H; exact H
             clear H
             have H := H1
             clear H1
             by_cases c30 : 0 ≤ x9_3
             ·rw [if_pos c30] at H
              have c30b0 : decide (0 ≤ x9_3) = true := decide_eq_true c30
              clear c30
              by_cases c31 : x9_3 < (l1_0.length : Int)
              ·rw [if_pos c31] at H
               have c31b0 : decide (x9_3 < (l1_0.length : Int)) = true := decide_eq_true c31
               clear c31
               by_cases c32 : ((rd_T42 l1_0 x9_3).f0) > x106000_3
               ·rw [if_pos c32] at H
                have c32b0 : decide (x106000_3 < ((rd_T42 l1_0 x9_3).f0)) = true := decide_eq_true c32
                clear c32
                by_cases c33 : x5_3.length < 8796093022208
                ·rw [if_pos c33] at H
                 have LMc33 := am c33
                 clear c33
                 obtain ⟨y110, hy110⟩ : ∃ y_ : List (S42), y_ = (x5_3 ++ [(⟨x106000_3, (rd_T42 l1_0 x9_3).f0⟩ : S42)]) := ⟨_, rfl⟩
                 replace H : (ranges_Set_Less.l2 kj23 y110 x6_11 (wrap64 (x9_3 + 1)) l0_0 (l0_0.length : Int) x13_1 l1_0 (mn ((rd_T42 l1_0 x9_3).f1) ((rd_T42 l0_0 x13_1).f1)) ((rd_T42 l0_0 x13_1).f1)) = some r := by first | (rw [hy110]; with_reducible exact H) | (have H2_ := (Option.bind_some _ _).symm.trans H; rw [hy110]; with_reducible exact H2_) | (have H2_ := (Option.bind_some _ _).symm.trans H; with_reducible exact H2_) | with_reducible exact H | (rw [hy110]; exact H) | exact H
                 have Ny110 := am hy110
                 clear hy110
                 obtain ⟨ji34, hji34⟩ : ∃ j_ : Int, (mn ((rd_T42 l1_0 x9_3).f1) ((rd_T42 l0_0 x13_1).f1)) = j_ := ⟨_, rfl⟩
                 replace H : (ranges_Set_Less.l2 kj23 y110 x6_11 (wrap64 (x9_3 + 1)) l0_0 (l0_0.length : Int) x13_1 l1_0 ji34 ((rd_T42 l0_0 x13_1).f1)) = some r := by first | (rw [hji34] at H; exact H) | (simp only [hji34] at H ⊢; exact H)
                 have hji34_ : (if ((rd_T42 l0_0 x13_1).f1) < ((rd_T42 l1_0 x9_3).f1) then ((rd_T42 l0_0 x13_1).f1) else ((rd_T42 l1_0 x9_3).f1)) = ji34 := hji34
                 have H' := am H
                 clear H
                 try go_wp2
                 have n0_ := am (Kd.R_drew HO_5.out)
                 have n1_ := am (kdr BK101.out)
                 have n2_ := am (kdr BK102.out)
                 have n3_ := am (kdr BK103.out)
                 have n4_ := am (kdr BK105.out)
                 have n5_ := am (bd1 HB.out)
                 clear HO_5
                 clear BK101
                 clear BK102
                 clear BK103
                 clear BK105
                 clear HB
                 have HO_5 := n0_
                 have BK101 := n1_
                 have BK102 := n2_
                 have BK103 := n3_
                 have BK105 := n4_
                 have HB := n5_
                 clear n0_ n1_ n2_ n3_ n4_ n5_
                 have p108 : 0 ≤ (x9_3 : Int) := of_decide_eq_true (by first | (with_reducible assumption) | assumption)
                 have q108 : x9_3 < (l1_0.length : Int) := of_decide_eq_true (by first | (with_reducible assumption) | assumption)
                 obtain ⟨ad108, e108, hx108_0, hx108_1⟩ := at_T42 HR1_0.out x9_3 p108 q108
                 have hw108_1 := hx108_1
                 have hw108_0 := hx108_0
                 cases e108
                 replace hx108_0 := (HB.out.cell (World.block_lt_of_cell? w _ hx108_0)).trans hx108_0
                 replace hx108_1 := (HB.out.cell (World.block_lt_of_cell? w _ hx108_1)).trans hx108_1
                 replace p108 := eq_true p108
                 replace q108 := eq_true q108
                 refine start_ (n := 9) (S := fun w' => w'.cell? ⟨gb102, 0, none⟩ = some (.slice (some ad108) l1_0.length c1_0) ∧ w'.cell? ⟨gb105, 0, none⟩ = some (.int .i64 x106000_3) ∧ w'.cell? ⟨gb105, 1, none⟩ = some (.int .i64 ((rd_T42 l0_0 x13_1).f1)) ∧ w'.cell? (ad108.add ((x9_3).toNat * 2)) = some (.int .i64 ((rd_T42 l1_0 x9_3).f0)) ∧ w'.cell? ⟨(ad108.add ((x9_3).toNat * 2)).block, (ad108.add ((x9_3).toNat * 2)).off + 1, none⟩ = some (.int .i64 ((rd_T42 l1_0 x9_3).f1))) (ds := []) #[false, false, false, false, false, false, false, false, false] (by kernel_rfl) rfl rfl ⟨(bcl BK102.out 0).trans rfl, (bcl BK105.out 0).trans rfl, (bcl BK105.out 1).trans rfl, ((HB.out.cell (World.block_lt_of_cell? w _ hw108_0)).trans hw108_0), ((HB.out.cell (World.block_lt_of_cell? w _ hw108_1)).trans hw108_1)⟩ (fun hHeld => ?_); refine with_tabW ranges_Set_Less.tab11 ranges_Set_Less.bits11 (fun HT_ HW_ => ?_)
                 generalize wc.drew = w35 at HO_5 BK101 BK102 BK103 BK105 HB hx108_0 hx108_1 hHeld ⊢
                 refine pure_ (i := 0) (N := some 54) (v := ?_) (a' := ?_) #[true, false, false, false, false, false, false, false, false] rfl rfl (any_of HT_.out (by kernel_rfl)) (fun _ _ _ h => h) (Or.inl ⟨by rfl, ?_⟩) ?_ ?_
                 rotate_left
                 ·intro w'
                  go_simp
                  with_reducible rfl
                 rotate_left
                 ·simp only [Act.put, sb1, sb2, sb3, i64_w, i32_w]
                  rfl
                 refine pure_ (i := 2) (N := some 56) (v := ?_) (a' := ?_) #[true, false, true, false, false, false, false, false, false] rfl rfl (any_of HT_.out (by kernel_rfl)) (fun _ _ _ h => h) (Or.inl ⟨by rfl, ?_⟩) ?_ ?_
                 rotate_left
                 ·intro w'
                  go_simp
                  with_reducible rfl
                 rotate_left
                 ·simp only [Act.put, sb1, sb2, sb3, i64_w, i32_w]
                  rfl
                 refine pure_ (i := 6) (N := some 60) (v := ?_) (a' := ?_) #[true, false, true, false, false, false, true, false, false] rfl rfl (any_of HT_.out (by kernel_rfl)) (fun _ _ _ h => h) (Or.inl ⟨by rfl, ?_⟩) ?_ ?_
                 rotate_left
                 ·intro w'
                  go_simp
                  with_reducible rfl
                 rotate_left
                 ·simp only [Act.put, sb1, sb2, sb3, i64_w, i32_w]
                  rfl
                 refine take_ (i := 1) (N := some 55) (v := ?_) (a' := ?_) #[true, true, true, false, false, false, true, false, false] rfl rfl (take_ofW HT_.out HW_.out (by kernel_rfl)) (fun _ _ _ h => h) (Or.inl ⟨by rfl, ?_⟩) hHeld ?_ ?_
                 rotate_left
                 ·rintro w' ⟨s0, s1, s2, s3, s4⟩
                  go_simp
                  with_reducible rfl
                 rotate_left
                 ·simp only [Act.put, sb1, sb2, sb3, i64_w, i32_w]
                  rfl
                 refine pure_ (i := 3) (N := some 57) (v := ?_) (a' := ?_) #[true, true, true, true, false, false, true, false, false] rfl rfl (any_of HT_.out (by kernel_rfl)) (fun _ _ _ h => h) (Or.inl ⟨by rfl, ?_⟩) ?_ ?_
                 rotate_left
                 ·intro w'
                  go_simp
                  with_reducible rfl
                 rotate_left
                 ·simp only [Act.put, sb1, sb2, sb3, i64_w, i32_w]
                  rfl
                 refine pure_ (i := 4) (N := some 58) (v := ?_) (a' := ?_) #[true, true, true, true, true, false, true, false, false] rfl rfl (any_of HT_.out (by kernel_rfl)) (fun _ _ _ h => h) (Or.inl ⟨by rfl, ?_⟩) ?_ ?_
                 rotate_left
                 ·intro w'
                  go_simp
                  with_reducible rfl
                 rotate_left
                 ·simp only [Act.put, sb1, sb2, sb3, i64_w, i32_w]
                  rfl
                 refine take_ (i := 5) (N := some 59) (v := ?_) (a' := ?_) #[true, true, true, true, true, true, true, false, false] rfl rfl (take_ofW HT_.out HW_.out (by kernel_rfl)) (fun _ _ _ h => h) (Or.inl ⟨by rfl, ?_⟩) hHeld ?_ ?_
                 rotate_left
                 ·rintro w' ⟨s0, s1, s2, s3, s4⟩
                  go_simp
                  with_reducible rfl
                 rotate_left
                 ·simp only [Act.put, sb1, sb2, sb3, i64_w, i32_w]
                  rfl
                 refine take_ (i := 7) (N := some 61) (v := ?_) (a' := ?_) #[true, true, true, true, true, true, true, true, false] rfl rfl (take_ofW HT_.out HW_.out (by kernel_rfl)) (fun _ _ _ h => h) (Or.inl ⟨by rfl, ?_⟩) hHeld ?_ ?_
                 rotate_left
                 ·rintro w' ⟨s0, s1, s2, s3, s4⟩
                  go_simp
                  with_reducible rfl
                 rotate_left
                 ·simp only [Act.put, sb1, sb2, sb3, i64_w, i32_w]
                  rfl
                 refine pure_ (i := 8) (N := some 62) (v := ?_) (a' := ?_) #[true, true, true, true, true, true, true, true, true] rfl rfl (any_of HT_.out (by kernel_rfl)) (fun _ _ _ h => h) (Or.inl ⟨by rfl, ?_⟩) ?_ ?_
                 rotate_left
                 ·intro w'
                  go_simp
                  with_reducible rfl
                 rotate_left
                 ·simp only [Act.put, sb1, sb2, sb3, i64_w, i32_w]
                  rfl
                 refine done_ (done_of HT_.out (by kernel_rfl)) ?_
                 try go_wp2
                 have n0_ := am (Kd.R_drew HO_5.out)
                 have n1_ := am (kdr BK101.out)
                 have n2_ := am (kdr BK102.out)
                 have n3_ := am (kdr BK103.out)
                 have n4_ := am (kdr BK105.out)
                 have n5_ := am (bd1 HB.out)
                 clear HO_5
                 clear BK101
                 clear BK102
                 clear BK103
                 clear BK105
                 clear HB
                 have HO_5 := n0_
                 have BK101 := n1_
                 have BK102 := n2_
                 have BK103 := n3_
                 have BK105 := n4_
                 have HB := n5_
                 clear n0_ n1_ n2_ n3_ n4_ n5_
                 have p109 : 0 ≤ (x9_3 : Int) := of_decide_eq_true (by first | (with_reducible assumption) | assumption)
                 have q109 : x9_3 < (l1_0.length : Int) := of_decide_eq_true (by first | (with_reducible assumption) | assumption)
                 obtain ⟨ad109, e109, hx109_0, hx109_1⟩ := at_T42 HR1_0.out x9_3 p109 q109
                 have hw109_1 := hx109_1
                 have hw109_0 := hx109_0
                 obtain rfl : ad108 = ad109 := (by injection e109)
                 replace hx109_0 := (HB.out.cell (World.block_lt_of_cell? w _ hx109_0)).trans hx109_0
                 replace hx109_1 := (HB.out.cell (World.block_lt_of_cell? w _ hx109_1)).trans hx109_1
                 replace p109 := eq_true p109
                 replace q109 := eq_true q109
                 refine start_ (n := 13) (S := fun w' => w'.cell? ⟨gb105, 0, none⟩ = some (.int .i64 x106000_3) ∧ w'.cell? ⟨gb105, 1, none⟩ = some (.int .i64 ((rd_T42 l0_0 x13_1).f1)) ∧ w'.cell? ⟨gb102, 0, none⟩ = some (.slice (some ad108) l1_0.length c1_0) ∧ w'.cell? (ad108.add ((x9_3).toNat * 2)) = some (.int .i64 ((rd_T42 l1_0 x9_3).f0)) ∧ w'.cell? ⟨(ad108.add ((x9_3).toNat * 2)).block, (ad108.add ((x9_3).toNat * 2)).off + 1, none⟩ = some (.int .i64 ((rd_T42 l1_0 x9_3).f1))) (ds := []) #[false, false, false, false, false, false, false, false, false, false, false, false, false] (by kernel_rfl) rfl rfl ⟨(bcl BK105.out 0).trans rfl, (bcl BK105.out 1).trans rfl, (bcl BK102.out 0).trans rfl, ((HB.out.cell (World.block_lt_of_cell? w _ hw109_0)).trans hw109_0), ((HB.out.cell (World.block_lt_of_cell? w _ hw109_1)).trans hw109_1)⟩ (fun hHeld => ?_); refine with_tabW ranges_Set_Less.tab12 ranges_Set_Less.bits12 (fun HT_ HW_ => ?_)
                 generalize w35.drew = w36 at HO_5 BK101 BK102 BK103 BK105 HB hx109_0 hx109_1 hHeld ⊢
                 refine pure_ (i := 0) (N := some 63) (v := ?_) (a' := ?_) #[true, false, false, false, false, false, false, false, false, false, false, false, false] rfl rfl (any_of HT_.out (by kernel_rfl)) (fun _ _ _ h => h) (Or.inl ⟨by rfl, ?_⟩) ?_ ?_
                 rotate_left
                 ·intro w'
                  go_simp
                  with_reducible rfl
                 rotate_left
                 ·simp only [Act.put, sb1, sb2, sb3, i64_w, i32_w]
                  rfl
                 refine pure_ (i := 1) (N := some 64) (v := ?_) (a' := ?_) #[true, true, false, false, false, false, false, false, false, false, false, false, false] rfl rfl (any_of HT_.out (by kernel_rfl)) (fun _ _ _ h => h) (Or.inl ⟨by rfl, ?_⟩) ?_ ?_
                 rotate_left
                 ·intro w'
                  go_simp
                  with_reducible rfl
                 rotate_left
                 ·simp only [Act.put, sb1, sb2, sb3, i64_w, i32_w]
                  rfl
                 refine pure_ (i := 3) (N := some 66) (v := ?_) (a' := ?_) #[true, true, false, true, false, false, false, false, false, false, false, false, false] rfl rfl (any_of HT_.out (by kernel_rfl)) (fun _ _ _ h => h) (Or.inl ⟨by rfl, ?_⟩) ?_ ?_
                 rotate_left
                 ·intro w'
                  go_simp
                  with_reducible rfl
                 rotate_left
                 ·simp only [Act.put, sb1, sb2, sb3, i64_w, i32_w]
                  rfl
                 refine pure_ (i := 5) (N := some 68) (v := ?_) (a' := ?_) #[true, true, false, true, false, true, false, false, false, false, false, false, false] rfl rfl (any_of HT_.out (by kernel_rfl)) (fun _ _ _ h => h) (Or.inl ⟨by rfl, ?_⟩) ?_ ?_
                 rotate_left
                 ·intro w'
                  go_simp
                  with_reducible rfl
                 rotate_left
                 ·simp only [Act.put, sb1, sb2, sb3, i64_w, i32_w]
                  rfl
                 refine take_ (i := 2) (N := some 65) (v := ?_) (a' := ?_) #[true, true, true, true, false, true, false, false, false, false, false, false, false] rfl rfl (take_ofW HT_.out HW_.out (by kernel_rfl)) (fun _ _ _ h => h) (Or.inl ⟨by rfl, ?_⟩) hHeld ?_ ?_
                 rotate_left
                 ·rintro w' ⟨s0, s1, s2, s3, s4⟩
                  go_simp
                  with_reducible rfl
                 rotate_left
                 ·simp only [Act.put, sb1, sb2, sb3, i64_w, i32_w]
                  rfl
                 refine take_ (i := 4) (N := some 67) (v := ?_) (a' := ?_) #[true, true, true, true, true, true, false, false, false, false, false, false, false] rfl rfl (take_ofW HT_.out HW_.out (by kernel_rfl)) (fun _ _ _ h => h) (Or.inl ⟨by rfl, ?_⟩) hHeld ?_ ?_
                 rotate_left
                 ·rintro w' ⟨s0, s1, s2, s3, s4⟩
                  go_simp
                  with_reducible rfl
                 rotate_left
                 ·simp only [Act.put, sb1, sb2, sb3, i64_w, i32_w]
                  rfl
                 refine pure_ (i := 6) (N := some 69) (v := ?_) (a' := ?_) #[true, true, true, true, true, true, true, false, false, false, false, false, false] rfl rfl (any_of HT_.out (by kernel_rfl)) (fun _ _ _ h => h) (Or.inl ⟨by rfl, ?_⟩) ?_ ?_
                 rotate_left
                 ·intro w'
                  go_simp
                  with_reducible rfl
                 rotate_left
                 ·simp only [Act.put, sb1, sb2, sb3, i64_w, i32_w]
                  rfl
                 refine pure_ (i := 7) (N := some 70) (v := ?_) (a' := ?_) #[true, true, true, true, true, true, true, true, false, false, false, false, false] rfl rfl (any_of HT_.out (by kernel_rfl)) (fun _ _ _ h => h) (Or.inl ⟨by rfl, ?_⟩) ?_ ?_
                 rotate_left
                 ·intro w'
                  go_simp
                  with_reducible rfl
                 rotate_left
                 ·simp only [Act.put, sb1, sb2, sb3, i64_w, i32_w]
                  rfl
                 refine take_ (i := 8) (N := some 71) (v := ?_) (a' := ?_) #[true, true, true, true, true, true, true, true, true, false, false, false, false] rfl rfl (take_ofW HT_.out HW_.out (by kernel_rfl)) (fun _ _ _ h => h) (Or.inl ⟨by rfl, ?_⟩) hHeld ?_ ?_
                 rotate_left
                 ·rintro w' ⟨s0, s1, s2, s3, s4⟩
                  go_simp
                  with_reducible rfl
                 rotate_left
                 ·simp only [Act.put, sb1, sb2, sb3, i64_w, i32_w]
                  rfl
                 refine pure_ (i := 9) (N := some 72) (v := ?_) (a' := ?_) #[true, true, true, true, true, true, true, true, true, true, false, false, false] rfl rfl (any_of HT_.out (by kernel_rfl)) (fun _ _ _ h => h) (Or.inl ⟨by rfl, ?_⟩) ?_ ?_
                 rotate_left
                 ·intro w'
                  go_simp
                  with_reducible rfl
                 rotate_left
                 ·simp only [Act.put, sb1, sb2, sb3, i64_w, i32_w]
                  rfl
                 refine one_ (i := 10) (N := some 73) #[true, true, true, true, true, true, true, true, true, true, true, false, false] rfl rfl (one_of HT_.out (by kernel_rfl)) (by decide) (fun K hK => ?_)
                 refine value_ (w1 := ?_) (v := ?_) (by rfl) rfl ?_ ?_
                 rotate_left 2
                 ·go_simp
                  constructor
                  ·rfl
                  ·rfl
                 refine hK.out _ _ ⟨(bcl (kal BK105.out _) 0).trans rfl, (bcl (kal BK105.out _) 1).trans rfl, (bcl (kal BK102.out _) 0).trans rfl, (World.cell?_alloc_lt _ _ _ (World.block_lt_of_cell? _ _ (((HB.out.cell (World.block_lt_of_cell? w _ hw109_0)).trans hw109_0)))).trans (((HB.out.cell (World.block_lt_of_cell? w _ hw109_0)).trans hw109_0)), (World.cell?_alloc_lt _ _ _ (World.block_lt_of_cell? _ _ (((HB.out.cell (World.block_lt_of_cell? w _ hw109_1)).trans hw109_1)))).trans (((HB.out.cell (World.block_lt_of_cell? w _ hw109_1)).trans hw109_1))⟩ (fun hHeld => ?_)
                 clear hK K
                 refine norm_ (a' := ?_) ?_ ?_
                 rotate_left
                 ·show Act.put _ (some 73) _ = _
                  simp only [Act.put, sb1, sb2, sb3, i64_w, i32_w]
                  rfl
                 refine one_ (i := 11) (N := some 74) #[true, true, true, true, true, true, true, true, true, true, true, true, false] rfl rfl (one_of HT_.out (by kernel_rfl)) (by decide) (fun K hK => ?_)
                 refine Kd.R_append_step k42 (w0 := w) w.heap.size (by rfl) (.tmp 63) (.tmp 73) 22 42 (.agg #[(.int .i64 0), (.int .i64 0)]) 16 rfl Tryd.underlying22 info42 rfl (by decide) (by omega) u5 x5_3 (⟨x106000_3, (rd_T42 l1_0 x9_3).f0⟩ : S42) [.int .i64 x106000_3, .int .i64 ((rd_T42 l1_0 x9_3).f0)] (fun k_ => k_ ≠ gb105) (fun _ => False) rfl rfl ?aP (fun _ hk => hk.elim) ?aF ?aO ?aB ?aS ?aL ?_
                 (case aP => exact k42_mkM _ _ _ (⟨x106000_3, (rd_T42 l1_0 x9_3).f0⟩ : S42))
                 (case aB => exact (by repeat (first | (with_reducible first | exact HB.out | apply bal | apply bdn | apply bd1 | refine bst ?_ GE101.out | refine bst ?_ GE102.out | refine bst ?_ GE103.out | refine bst ?_ GE105.out) | exact HB.out)))
                 (case aF => exact (fun k_ hk => Kd.freshB (g := gb105) (o := .cells #[.int .i64 x106000_3, .int .i64 ((rd_T42 l0_0 x13_1).f1)] 42 (0, 0)) (by (with_reducible repeat (first | refine kdn ?_ _ | refine kdr ?_ | refine kal ?_ _)); exact BK105.out) k_ hk))
                 (case aO => exact (by (with_reducible repeat (first | apply Kd.R_alloc | apply Kd.R_drewN | apply Kd.R_drew)); exact HO_5.out))
                 (case aS => exact (below_size (by repeat (first | (with_reducible first | exact HB.out | apply bal | apply bdn | apply bd1 | refine bst ?_ GE101.out | refine bst ?_ GE102.out | refine bst ?_ GE103.out | refine bst ?_ GE105.out) | exact HB.out))))
                 (case aL => have := LMc33.out; omega)
                 intro v111 w37 ho hb hg hat
                 rw [← Ny110.out] at ho
                 have n0_ := am (blk_grown (g := gb101) (o := .cells #[.slice (some ad104) l0_0.length c0_0] 29 (0, 0)) (by (with_reducible repeat (first | refine kdn ?_ _ | refine kdr ?_ | refine kal ?_ _)); exact BK101.out) hg (Kd.R_ne HO_5.out BK101.out (by decide)))
                 have n1_ := am (blk_grown (g := gb102) (o := .cells #[.slice (some ad108) l1_0.length c1_0] 29 (0, 0)) (by (with_reducible repeat (first | refine kdn ?_ _ | refine kdr ?_ | refine kal ?_ _)); exact BK102.out) hg (Kd.R_ne HO_5.out BK102.out (by decide)))
                 have n2_ := am (blk_grown (g := gb103) (o := .cells #[.slice none 0 0] 29 (0, 0)) (by (with_reducible repeat (first | refine kdn ?_ _ | refine kdr ?_ | refine kal ?_ _)); exact BK103.out) hg (Kd.R_ne HO_5.out BK103.out (by decide)))
                 have n3_ := am (blk_grown (g := gb105) (o := .cells #[.int .i64 x106000_3, .int .i64 ((rd_T42 l0_0 x13_1).f1)] 42 (0, 0)) (by (with_reducible repeat (first | refine kdn ?_ _ | refine kdr ?_ | refine kal ?_ _)); exact BK105.out) hg (Kd.R_away HO_5.out (fun _ hk => hk)))
                 have n4_ := am (hb)
                 have n5_ := am (ho)
                 clear BK101
                 clear BK102
                 clear BK103
                 clear BK105
                 clear HB
                 clear HO_5
                 have BK101 := n0_
                 have BK102 := n1_
                 have BK103 := n2_
                 have BK105 := n3_
                 have HB := n4_
                 have HO112 := n5_
                 clear n0_ n1_ n2_ n3_ n4_ n5_
                 clear ho hb hg hat
                 refine hK.out _ _ ⟨(bcl BK105.out 0).trans rfl, (bcl BK105.out 1).trans rfl, (bcl BK102.out 0).trans rfl, ((HB.out.cell (World.block_lt_of_cell? w _ hw109_0)).trans hw109_0), ((HB.out.cell (World.block_lt_of_cell? w _ hw109_1)).trans hw109_1)⟩ (fun hHeld => ?_)
                 clear hK K
                 refine norm_ (a' := ?_) ?_ ?_
                 rotate_left
                 ·show Act.put _ (some 74) _ = _
                  simp only [Act.put, sb1, sb2, sb3, i64_w, i32_w]
                  rfl
                 refine pure_ (i := 12) (N := some 5) (v := ?_) (a' := ?_) #[true, true, true, true, true, true, true, true, true, true, true, true, true] rfl rfl (any_of HT_.out (by kernel_rfl)) (fun _ _ _ h => h) (Or.inl ⟨by rfl, ?_⟩) ?_ ?_
                 rotate_left
                 ·intro w'
                  go_simp
                  with_reducible rfl
                 rotate_left
                 ·simp only [Act.put, sb1, sb2, sb3, i64_w, i32_w]
                  rfl
                 refine done_ (done_of HT_.out (by kernel_rfl)) ?_
                 try go_wp2
                 have n0_ := am (Kd.R_drew HO112.out)
                 have n1_ := am (kdr BK101.out)
                 have n2_ := am (kdr BK102.out)
                 have n3_ := am (kdr BK103.out)
                 have n4_ := am (kdr BK105.out)
                 have n5_ := am (bd1 HB.out)
                 clear HO112
                 clear BK101
                 clear BK102
                 clear BK103
                 clear BK105
                 clear HB
                 have HO112 := n0_
                 have BK101 := n1_
                 have BK102 := n2_
                 have BK103 := n3_
                 have BK105 := n4_
                 have HB := n5_
                 clear n0_ n1_ n2_ n3_ n4_ n5_
                 have p113 : 0 ≤ (x9_3 : Int) := of_decide_eq_true (by first | (with_reducible assumption) | assumption)
                 have q113 : x9_3 < (l1_0.length : Int) := of_decide_eq_true (by first | (with_reducible assumption) | assumption)
                 obtain ⟨ad113, e113, hx113_0, hx113_1⟩ := at_T42 HR1_0.out x9_3 p113 q113
                 have hw113_1 := hx113_1
                 have hw113_0 := hx113_0
                 obtain rfl : ad108 = ad113 := (by injection e113)
                 replace hx113_0 := (HB.out.cell (World.block_lt_of_cell? w _ hx113_0)).trans hx113_0
                 replace hx113_1 := (HB.out.cell (World.block_lt_of_cell? w _ hx113_1)).trans hx113_1
                 replace p113 := eq_true p113
                 replace q113 := eq_true q113
                 refine start_ (n := 11) (S := fun w' => w'.cell? ⟨gb102, 0, none⟩ = some (.slice (some ad108) l1_0.length c1_0) ∧ w'.cell? ⟨gb105, 0, none⟩ = some (.int .i64 x106000_3) ∧ w'.cell? ⟨gb105, 1, none⟩ = some (.int .i64 ((rd_T42 l0_0 x13_1).f1)) ∧ w'.cell? (ad108.add ((x9_3).toNat * 2)) = some (.int .i64 ((rd_T42 l1_0 x9_3).f0)) ∧ w'.cell? ⟨(ad108.add ((x9_3).toNat * 2)).block, (ad108.add ((x9_3).toNat * 2)).off + 1, none⟩ = some (.int .i64 ((rd_T42 l1_0 x9_3).f1))) (ds := [10]) #[false, false, false, false, false, false, false, false, false, false, false] (by kernel_rfl) rfl rfl ⟨(bcl BK102.out 0).trans rfl, (bcl BK105.out 0).trans rfl, (bcl BK105.out 1).trans rfl, ((HB.out.cell (World.block_lt_of_cell? w _ hw113_0)).trans hw113_0), ((HB.out.cell (World.block_lt_of_cell? w _ hw113_1)).trans hw113_1)⟩ (fun hHeld => ?_); refine with_tabW ranges_Set_Less.tab13 ranges_Set_Less.bits13 (fun HT_ HW_ => ?_)
                 generalize w37.drew = w38 at HO112 BK101 BK102 BK103 BK105 HB hx113_0 hx113_1 hHeld ⊢
                 refine pure_ (i := 0) (N := some 75) (v := ?_) (a' := ?_) #[true, false, false, false, false, false, false, false, false, false, false] rfl rfl (any_of HT_.out (by kernel_rfl)) (fun _ _ _ h => h) (Or.inl ⟨by rfl, ?_⟩) ?_ ?_
                 rotate_left
                 ·intro w'
                  go_simp
                  with_reducible rfl
                 rotate_left
                 ·simp only [Act.put, sb1, sb2, sb3, i64_w, i32_w]
                  rfl
                 refine pure_ (i := 2) (N := some 77) (v := ?_) (a' := ?_) #[true, false, true, false, false, false, false, false, false, false, false] rfl rfl (any_of HT_.out (by kernel_rfl)) (fun _ _ _ h => h) (Or.inl ⟨by rfl, ?_⟩) ?_ ?_
                 rotate_left
                 ·intro w'
                  go_simp
                  with_reducible rfl
                 rotate_left
                 ·simp only [Act.put, sb1, sb2, sb3, i64_w, i32_w]
                  rfl
                 refine pure_ (i := 6) (N := some 81) (v := ?_) (a' := ?_) #[true, false, true, false, false, false, true, false, false, false, false] rfl rfl (any_of HT_.out (by kernel_rfl)) (fun _ _ _ h => h) (Or.inl ⟨by rfl, ?_⟩) ?_ ?_
                 rotate_left
                 ·intro w'
                  go_simp
                  with_reducible rfl
                 rotate_left
                 ·simp only [Act.put, sb1, sb2, sb3, i64_w, i32_w]
                  rfl
                 refine take_ (i := 1) (N := some 76) (v := ?_) (a' := ?_) #[true, true, true, false, false, false, true, false, false, false, false] rfl rfl (take_ofW HT_.out HW_.out (by kernel_rfl)) (fun _ _ _ h => h) (Or.inl ⟨by rfl, ?_⟩) hHeld ?_ ?_
                 rotate_left
                 ·rintro w' ⟨s0, s1, s2, s3, s4⟩
                  go_simp
                  with_reducible rfl
                 rotate_left
                 ·simp only [Act.put, sb1, sb2, sb3, i64_w, i32_w]
                  rfl
                 refine pure_ (i := 3) (N := some 78) (v := ?_) (a' := ?_) #[true, true, true, true, false, false, true, false, false, false, false] rfl rfl (any_of HT_.out (by kernel_rfl)) (fun _ _ _ h => h) (Or.inl ⟨by rfl, ?_⟩) ?_ ?_
                 rotate_left
                 ·intro w'
                  go_simp
                  with_reducible rfl
                 rotate_left
                 ·simp only [Act.put, sb1, sb2, sb3, i64_w, i32_w]
                  rfl
                 refine pure_ (i := 4) (N := some 79) (v := ?_) (a' := ?_) #[true, true, true, true, true, false, true, false, false, false, false] rfl rfl (any_of HT_.out (by kernel_rfl)) (fun _ _ _ h => h) (Or.inl ⟨by rfl, ?_⟩) ?_ ?_
                 rotate_left
                 ·intro w'
                  go_simp
                  with_reducible rfl
                 rotate_left
                 ·simp only [Act.put, sb1, sb2, sb3, i64_w, i32_w]
                  rfl
                 refine take_ (i := 5) (N := some 80) (v := ?_) (a' := ?_) #[true, true, true, true, true, true, true, false, false, false, false] rfl rfl (take_ofW HT_.out HW_.out (by kernel_rfl)) (fun _ _ _ h => h) (Or.inl ⟨by rfl, ?_⟩) hHeld ?_ ?_
                 rotate_left
                 ·rintro w' ⟨s0, s1, s2, s3, s4⟩
                  go_simp
                  with_reducible rfl
                 rotate_left
                 ·simp only [Act.put, sb1, sb2, sb3, i64_w, i32_w]
                  rfl
                 refine take_ (i := 7) (N := some 82) (v := ?_) (a' := ?_) #[true, true, true, true, true, true, true, true, false, false, false] rfl rfl (take_ofW HT_.out HW_.out (by kernel_rfl)) (fun _ _ _ h => h) (Or.inl ⟨by rfl, ?_⟩) hHeld ?_ ?_
                 rotate_left
                 ·rintro w' ⟨s0, s1, s2, s3, s4⟩
                  go_simp
                  with_reducible rfl
                 rotate_left
                 ·simp only [Act.put, sb1, sb2, sb3, i64_w, i32_w]
                  rfl
                 refine pure_ (i := 8) (N := some 83) (v := ?_) (a' := ?_) #[true, true, true, true, true, true, true, true, true, false, false] rfl rfl (any_of HT_.out (by kernel_rfl)) (fun _ _ _ h => h) (Or.inl ⟨by rfl, ?_⟩) ?_ ?_
                 rotate_left
                 ·intro w'
                  go_simp
                  with_reducible rfl
                 rotate_left
                 ·simp only [Act.put, sb1, sb2, sb3, i64_w, i32_w]
                  rfl
                 refine pure_ (i := 9) (N := some 84) (v := ?_) (a' := ?_) #[true, true, true, true, true, true, true, true, true, true, false] rfl rfl (any_of HT_.out (by kernel_rfl)) (fun _ _ _ h => h) (Or.inl ⟨by rfl, ?_⟩) ?_ ?_
                 rotate_left
                 ·intro w'
                  go_simp
                  with_reducible rfl
                 rotate_left
                 ·simp only [Act.put, sb1, sb2, sb3, i64_w, i32_w]
                  rfl
                 refine last_ (i := 10) (N := none) #[true, true, true, true, true, true, true, true, true, true, true] rfl rfl (one_of HT_.out (by kernel_rfl)) (by decide) (fun K hK => ?_)
                 have hs39 : w38.cell? ⟨gb105, 0, none⟩ = some (.int .i64 x106000_3) := (bcl BK105.out 0).trans rfl
                 have hfs39 := bfz BK105.out 0
                 have hns39_0 := NB101_105.out
                 have hns39_1 := NB102_105.out
                 have hns39_2 := NB103_105.out
                 have hms39_0 := NB105_101.out
                 have hms39_1 := NB105_102.out
                 have hms39_2 := NB105_103.out
                 refine skip_ (w1 := ?_) (by rfl) rfl ?_ ?_
                 rotate_left
                 ·go_simp
                  rfl
                 refine hK.out _ _ ?_
                 clear hK K
                 refine done_ (done_of HT_.out (by kernel_rfl)) ?_
                 try go_wp2
                 go_roundg kj23
                 case measure => have := HK1.out; have := HJ11.out; have := HK3.out; have := HJ23.out; omega
                 case rel => exact ⟨(y110), (wrap64 (x9_3 + 1)), (ji34), (by first | rfl | (simp; done) | (simp [*]; done)), H', ⟨by have := HK1.out; have := HJ11.out; have := HK3.out; have := HJ23.out; omega⟩, ⟨by (with_reducible repeat (first | apply Kd.R_alloc | apply Kd.R_drewN | apply Kd.R_drew)); exact Kd.R_mono (Kd.R_far (p := ⟨gb105, 0, none⟩) (Kd.R_mono HO112.out (fun k_ hk => (⟨hk, hk⟩ : _ ∧ k_ ≠ gb105))) (fun _ hk => hk.2) (.int .i64 ji34)) (fun _ hk => hk.1)⟩, ⟨by (with_reducible repeat (first | refine kdn ?_ _ | refine kdr ?_ | refine kal ?_ _)); refine blk_far ?_ NB101_105.out _; (with_reducible repeat (first | refine kdn ?_ _ | refine kdr ?_ | refine kal ?_ _)); exact BK101.out⟩, ⟨by (with_reducible repeat (first | refine kdn ?_ _ | refine kdr ?_ | refine kal ?_ _)); refine blk_far ?_ NB102_105.out _; (with_reducible repeat (first | refine kdn ?_ _ | refine kdr ?_ | refine kal ?_ _)); exact BK102.out⟩, ⟨by (with_reducible repeat (first | refine kdn ?_ _ | refine kdr ?_ | refine kal ?_ _)); refine blk_far ?_ NB103_105.out _; (with_reducible repeat (first | refine kdn ?_ _ | refine kdr ?_ | refine kal ?_ _)); exact BK103.out⟩, ⟨by (with_reducible repeat (first | refine kdn ?_ _ | refine kdr ?_ | refine kal ?_ _)); refine blk_put (cs := #[.int .i64 x106000_3, .int .i64 ((rd_T42 l0_0 x13_1).f1)]) ?_ 0 _ rfl; (with_reducible repeat (first | refine kdn ?_ _ | refine kdr ?_ | refine kal ?_ _)); exact BK105.out⟩, ⟨by repeat (first | (with_reducible first | exact HB.out | apply bal | apply bdn | apply bd1 | refine bst ?_ GE101.out | refine bst ?_ GE102.out | refine bst ?_ GE103.out | refine bst ?_ GE105.out) | exact HB.out)⟩⟩
                ·rw [if_neg c33] at H
                 exact absurd H (by simp)
               ·rw [if_neg c32] at H
                have c32b0 : decide (x106000_3 < ((rd_T42 l1_0 x9_3).f0)) = false := decide_eq_false c32
                clear c32
                obtain ⟨ji40, hji40⟩ : ∃ j_ : Int, (mn ((rd_T42 l1_0 x9_3).f1) ((rd_T42 l0_0 x13_1).f1)) = j_ := ⟨_, rfl⟩
                replace H : (ranges_Set_Less.l2 kj23 x5_3 x6_11 (wrap64 (x9_3 + 1)) l0_0 (l0_0.length : Int) x13_1 l1_0 ji40 ((rd_T42 l0_0 x13_1).f1)) = some r := by first | (rw [hji40] at H; exact H) | (simp only [hji40] at H ⊢; exact H)
                have hji40_ : (if ((rd_T42 l0_0 x13_1).f1) < ((rd_T42 l1_0 x9_3).f1) then ((rd_T42 l0_0 x13_1).f1) else ((rd_T42 l1_0 x9_3).f1)) = ji40 := hji40
                have H' := am H
                clear H
                try go_wp2
                have n0_ := am (Kd.R_drew HO_5.out)
                have n1_ := am (kdr BK101.out)
                have n2_ := am (kdr BK102.out)
                have n3_ := am (kdr BK103.out)
                have n4_ := am (kdr BK105.out)
                have n5_ := am (bd1 HB.out)
                clear HO_5
                clear BK101
                clear BK102
                clear BK103
                clear BK105
                clear HB
                have HO_5 := n0_
                have BK101 := n1_
                have BK102 := n2_
                have BK103 := n3_
                have BK105 := n4_
                have HB := n5_
                clear n0_ n1_ n2_ n3_ n4_ n5_
                have p108 : 0 ≤ (x9_3 : Int) := of_decide_eq_true (by first | (with_reducible assumption) | assumption)
                have q108 : x9_3 < (l1_0.length : Int) := of_decide_eq_true (by first | (with_reducible assumption) | assumption)
                obtain ⟨ad108, e108, hx108_0, hx108_1⟩ := at_T42 HR1_0.out x9_3 p108 q108
                have hw108_1 := hx108_1
                have hw108_0 := hx108_0
                cases e108
                replace hx108_0 := (HB.out.cell (World.block_lt_of_cell? w _ hx108_0)).trans hx108_0
                replace hx108_1 := (HB.out.cell (World.block_lt_of_cell? w _ hx108_1)).trans hx108_1
                replace p108 := eq_true p108
                replace q108 := eq_true q108
                refine start_ (n := 9) (S := fun w' => w'.cell? ⟨gb102, 0, none⟩ = some (.slice (some ad108) l1_0.length c1_0) ∧ w'.cell? ⟨gb105, 0, none⟩ = some (.int .i64 x106000_3) ∧ w'.cell? ⟨gb105, 1, none⟩ = some (.int .i64 ((rd_T42 l0_0 x13_1).f1)) ∧ w'.cell? (ad108.add ((x9_3).toNat * 2)) = some (.int .i64 ((rd_T42 l1_0 x9_3).f0)) ∧ w'.cell? ⟨(ad108.add ((x9_3).toNat * 2)).block, (ad108.add ((x9_3).toNat * 2)).off + 1, none⟩ = some (.int .i64 ((rd_T42 l1_0 x9_3).f1))) (ds := []) #[false, false, false, false, false, false, false, false, false] (by kernel_rfl) rfl rfl ⟨(bcl BK102.out 0).trans rfl, (bcl BK105.out 0).trans rfl, (bcl BK105.out 1).trans rfl, ((HB.out.cell (World.block_lt_of_cell? w _ hw108_0)).trans hw108_0), ((HB.out.cell (World.block_lt_of_cell? w _ hw108_1)).trans hw108_1)⟩ (fun hHeld => ?_); refine with_tabW ranges_Set_Less.tab11 ranges_Set_Less.bits11 (fun HT_ HW_ => ?_)
                generalize wc.drew = w41 at HO_5 BK101 BK102 BK103 BK105 HB hx108_0 hx108_1 hHeld ⊢
                refine pure_ (i := 0) (N := some 54) (v := ?_) (a' := ?_) #[true, false, false, false, false, false, false, false, false] rfl rfl (any_of HT_.out (by kernel_rfl)) (fun _ _ _ h => h) (Or.inl ⟨by rfl, ?_⟩) ?_ ?_
                rotate_left
                ·intro w'
                 go_simp
                 with_reducible rfl
                rotate_left
                ·simp only [Act.put, sb1, sb2, sb3, i64_w, i32_w]
                 rfl
                refine pure_ (i := 2) (N := some 56) (v := ?_) (a' := ?_) #[true, false, true, false, false, false, false, false, false] rfl rfl (any_of HT_.out (by kernel_rfl)) (fun _ _ _ h => h) (Or.inl ⟨by rfl, ?_⟩) ?_ ?_
                rotate_left
                ·intro w'
                 go_simp
                 with_reducible rfl
                rotate_left
                ·simp only [Act.put, sb1, sb2, sb3, i64_w, i32_w]
                 rfl
                refine pure_ (i := 6) (N := some 60) (v := ?_) (a' := ?_) #[true, false, true, false, false, false, true, false, false] rfl rfl (any_of HT_.out (by kernel_rfl)) (fun _ _ _ h => h) (Or.inl ⟨by rfl, ?_⟩) ?_ ?_
                rotate_left
                ·intro w'
                 go_simp
                 with_reducible rfl
                rotate_left
                ·simp only [Act.put, sb1, sb2, sb3, i64_w, i32_w]
                 rfl
                refine take_ (i := 1) (N := some 55) (v := ?_) (a' := ?_) #[true, true, true, false, false, false, true, false, false] rfl rfl (take_ofW HT_.out HW_.out (by kernel_rfl)) (fun _ _ _ h => h) (Or.inl ⟨by rfl, ?_⟩) hHeld ?_ ?_
                rotate_left
                ·rintro w' ⟨s0, s1, s2, s3, s4⟩
                 go_simp
                 with_reducible rfl
                rotate_left
                ·simp only [Act.put, sb1, sb2, sb3, i64_w, i32_w]
                 rfl
                refine pure_ (i := 3) (N := some 57) (v := ?_) (a' := ?_) #[true, true, true, true, false, false, true, false, false] rfl rfl (any_of HT_.out (by kernel_rfl)) (fun _ _ _ h => h) (Or.inl ⟨by rfl, ?_⟩) ?_ ?_
                rotate_left
                ·intro w'
                 go_simp
                 with_reducible rfl
                rotate_left
                ·simp only [Act.put, sb1, sb2, sb3, i64_w, i32_w]
                 rfl
                refine pure_ (i := 4) (N := some 58) (v := ?_) (a' := ?_) #[true, true, true, true, true, false, true, false, false] rfl rfl (any_of HT_.out (by kernel_rfl)) (fun _ _ _ h => h) (Or.inl ⟨by rfl, ?_⟩) ?_ ?_
                rotate_left
                ·intro w'
                 go_simp
                 with_reducible rfl
                rotate_left
                ·simp only [Act.put, sb1, sb2, sb3, i64_w, i32_w]
                 rfl
                refine take_ (i := 5) (N := some 59) (v := ?_) (a' := ?_) #[true, true, true, true, true, true, true, false, false] rfl rfl (take_ofW HT_.out HW_.out (by kernel_rfl)) (fun _ _ _ h => h) (Or.inl ⟨by rfl, ?_⟩) hHeld ?_ ?_
                rotate_left
                ·rintro w' ⟨s0, s1, s2, s3, s4⟩
                 go_simp
                 with_reducible rfl
                rotate_left
                ·simp only [Act.put, sb1, sb2, sb3, i64_w, i32_w]
                 rfl
                refine take_ (i := 7) (N := some 61) (v := ?_) (a' := ?_) #[true, true, true, true, true, true, true, true, false] rfl rfl (take_ofW HT_.out HW_.out (by kernel_rfl)) (fun _ _ _ h => h) (Or.inl ⟨by rfl, ?_⟩) hHeld ?_ ?_
                rotate_left
                ·rintro w' ⟨s0, s1, s2, s3, s4⟩
                 go_simp
                 with_reducible rfl
                rotate_left
                ·simp only [Act.put, sb1, sb2, sb3, i64_w, i32_w]
                 rfl
                refine pure_ (i := 8) (N := some 62) (v := ?_) (a' := ?_) #[true, true, true, true, true, true, true, true, true] rfl rfl (any_of HT_.out (by kernel_rfl)) (fun _ _ _ h => h) (Or.inl ⟨by rfl, ?_⟩) ?_ ?_
                rotate_left
                ·intro w'
                 go_simp
                 with_reducible rfl
                rotate_left
                ·simp only [Act.put, sb1, sb2, sb3, i64_w, i32_w]
                 rfl
                refine done_ (done_of HT_.out (by kernel_rfl)) ?_
                try go_wp2
                have n0_ := am (Kd.R_drew HO_5.out)
                have n1_ := am (kdr BK101.out)
                have n2_ := am (kdr BK102.out)
                have n3_ := am (kdr BK103.out)
                have n4_ := am (kdr BK105.out)
                have n5_ := am (bd1 HB.out)
                clear HO_5
                clear BK101
                clear BK102
                clear BK103
                clear BK105
                clear HB
                have HO_5 := n0_
                have BK101 := n1_
                have BK102 := n2_
                have BK103 := n3_
                have BK105 := n4_
                have HB := n5_
                clear n0_ n1_ n2_ n3_ n4_ n5_
                have p114 : 0 ≤ (x9_3 : Int) := of_decide_eq_true (by first | (with_reducible assumption) | assumption)
                have q114 : x9_3 < (l1_0.length : Int) := of_decide_eq_true (by first | (with_reducible assumption) | assumption)
                obtain ⟨ad114, e114, hx114_0, hx114_1⟩ := at_T42 HR1_0.out x9_3 p114 q114
                have hw114_1 := hx114_1
                have hw114_0 := hx114_0
                obtain rfl : ad108 = ad114 := (by injection e114)
                replace hx114_0 := (HB.out.cell (World.block_lt_of_cell? w _ hx114_0)).trans hx114_0
                replace hx114_1 := (HB.out.cell (World.block_lt_of_cell? w _ hx114_1)).trans hx114_1
                replace p114 := eq_true p114
                replace q114 := eq_true q114
                refine start_ (n := 11) (S := fun w' => w'.cell? ⟨gb102, 0, none⟩ = some (.slice (some ad108) l1_0.length c1_0) ∧ w'.cell? ⟨gb105, 0, none⟩ = some (.int .i64 x106000_3) ∧ w'.cell? ⟨gb105, 1, none⟩ = some (.int .i64 ((rd_T42 l0_0 x13_1).f1)) ∧ w'.cell? (ad108.add ((x9_3).toNat * 2)) = some (.int .i64 ((rd_T42 l1_0 x9_3).f0)) ∧ w'.cell? ⟨(ad108.add ((x9_3).toNat * 2)).block, (ad108.add ((x9_3).toNat * 2)).off + 1, none⟩ = some (.int .i64 ((rd_T42 l1_0 x9_3).f1))) (ds := [10]) #[false, false, false, false, false, false, false, false, false, false, false] (by kernel_rfl) rfl rfl ⟨(bcl BK102.out 0).trans rfl, (bcl BK105.out 0).trans rfl, (bcl BK105.out 1).trans rfl, ((HB.out.cell (World.block_lt_of_cell? w _ hw114_0)).trans hw114_0), ((HB.out.cell (World.block_lt_of_cell? w _ hw114_1)).trans hw114_1)⟩ (fun hHeld => ?_); refine with_tabW ranges_Set_Less.tab13 ranges_Set_Less.bits13 (fun HT_ HW_ => ?_)
                generalize w41.drew = w42 at HO_5 BK101 BK102 BK103 BK105 HB hx114_0 hx114_1 hHeld ⊢
                refine pure_ (i := 0) (N := some 75) (v := ?_) (a' := ?_) #[true, false, false, false, false, false, false, false, false, false, false] rfl rfl (any_of HT_.out (by kernel_rfl)) (fun _ _ _ h => h) (Or.inl ⟨by rfl, ?_⟩) ?_ ?_
                rotate_left
                ·intro w'
                 go_simp
                 with_reducible rfl
                rotate_left
                ·simp only [Act.put, sb1, sb2, sb3, i64_w, i32_w]
                 rfl
                refine pure_ (i := 2) (N := some 77) (v := ?_) (a' := ?_) #[true, false, true, false, false, false, false, false, false, false, false] rfl rfl (any_of HT_.out (by kernel_rfl)) (fun _ _ _ h => h) (Or.inl ⟨by rfl, ?_⟩) ?_ ?_
                rotate_left
                ·intro w'
                 go_simp
                 with_reducible rfl
                rotate_left
                ·simp only [Act.put, sb1, sb2, sb3, i64_w, i32_w]
                 rfl
                refine pure_ (i := 6) (N := some 81) (v := ?_) (a' := ?_) #[true, false, true, false, false, false, true, false, false, false, false] rfl rfl (any_of HT_.out (by kernel_rfl)) (fun _ _ _ h => h) (Or.inl ⟨by rfl, ?_⟩) ?_ ?_
                rotate_left
                ·intro w'
                 go_simp
                 with_reducible rfl
                rotate_left
                ·simp only [Act.put, sb1, sb2, sb3, i64_w, i32_w]
                 rfl
                refine take_ (i := 1) (N := some 76) (v := ?_) (a' := ?_) #[true, true, true, false, false, false, true, false, false, false, false] rfl rfl (take_ofW HT_.out HW_.out (by kernel_rfl)) (fun _ _ _ h => h) (Or.inl ⟨by rfl, ?_⟩) hHeld ?_ ?_
                rotate_left
                ·rintro w' ⟨s0, s1, s2, s3, s4⟩
                 go_simp
                 with_reducible rfl
                rotate_left
                ·simp only [Act.put, sb1, sb2, sb3, i64_w, i32_w]
                 rfl
                refine pure_ (i := 3) (N := some 78) (v := ?_) (a' := ?_) #[true, true, true, true, false, false, true, false, false, false, false] rfl rfl (any_of HT_.out (by kernel_rfl)) (fun _ _ _ h => h) (Or.inl ⟨by rfl, ?_⟩) ?_ ?_
                rotate_left
                ·intro w'
                 go_simp
                 with_reducible rfl
                rotate_left
                ·simp only [Act.put, sb1, sb2, sb3, i64_w, i32_w]
                 rfl
                refine pure_ (i := 4) (N := some 79) (v := ?_) (a' := ?_) #[true, true, true, true, true, false, true, false, false, false, false] rfl rfl (any_of HT_.out (by kernel_rfl)) (fun _ _ _ h => h) (Or.inl ⟨by rfl, ?_⟩) ?_ ?_
                rotate_left
                ·intro w'
                 go_simp
                 with_reducible rfl
                rotate_left
                ·simp only [Act.put, sb1, sb2, sb3, i64_w, i32_w]
                 rfl
                refine take_ (i := 5) (N := some 80) (v := ?_) (a' := ?_) #[true, true, true, true, true, true, true, false, false, false, false] rfl rfl (take_ofW HT_.out HW_.out (by kernel_rfl)) (fun _ _ _ h => h) (Or.inl ⟨by rfl, ?_⟩) hHeld ?_ ?_
                rotate_left
                ·rintro w' ⟨s0, s1, s2, s3, s4⟩
                 go_simp
                 with_reducible rfl
                rotate_left
                ·simp only [Act.put, sb1, sb2, sb3, i64_w, i32_w]
                 rfl
                refine take_ (i := 7) (N := some 82) (v := ?_) (a' := ?_) #[true, true, true, true, true, true, true, true, false, false, false] rfl rfl (take_ofW HT_.out HW_.out (by kernel_rfl)) (fun _ _ _ h => h) (Or.inl ⟨by rfl, ?_⟩) hHeld ?_ ?_
                rotate_left
                ·rintro w' ⟨s0, s1, s2, s3, s4⟩
                 go_simp
                 with_reducible rfl
                rotate_left
                ·simp only [Act.put, sb1, sb2, sb3, i64_w, i32_w]
                 rfl
                refine pure_ (i := 8) (N := some 83) (v := ?_) (a' := ?_) #[true, true, true, true, true, true, true, true, true, false, false] rfl rfl (any_of HT_.out (by kernel_rfl)) (fun _ _ _ h => h) (Or.inl ⟨by rfl, ?_⟩) ?_ ?_
                rotate_left
                ·intro w'
                 go_simp
                 with_reducible rfl
                rotate_left
                ·simp only [Act.put, sb1, sb2, sb3, i64_w, i32_w]
                 rfl
                refine pure_ (i := 9) (N := some 84) (v := ?_) (a' := ?_) #[true, true, true, true, true, true, true, true, true, true, false] rfl rfl (any_of HT_.out (by kernel_rfl)) (fun _ _ _ h => h) (Or.inl ⟨by rfl, ?_⟩) ?_ ?_
                rotate_left
                ·intro w'
                 go_simp
                 with_reducible rfl
                rotate_left
                ·simp only [Act.put, sb1, sb2, sb3, i64_w, i32_w]
                 rfl
                refine last_ (i := 10) (N := none) #[true, true, true, true, true, true, true, true, true, true, true] rfl rfl (one_of HT_.out (by kernel_rfl)) (by decide) (fun K hK => ?_)
                have hs43 : w42.cell? ⟨gb105, 0, none⟩ = some (.int .i64 x106000_3) := (bcl BK105.out 0).trans rfl
                have hfs43 := bfz BK105.out 0
                have hns43_0 := NB101_105.out
                have hns43_1 := NB102_105.out
                have hns43_2 := NB103_105.out
                have hms43_0 := NB105_101.out
                have hms43_1 := NB105_102.out
                have hms43_2 := NB105_103.out
                refine skip_ (w1 := ?_) (by rfl) rfl ?_ ?_
                rotate_left
                ·go_simp
                 rfl
                refine hK.out _ _ ?_
                clear hK K
                refine done_ (done_of HT_.out (by kernel_rfl)) ?_
                try go_wp2
                go_roundg kj23
                case measure => have := HK1.out; have := HJ11.out; have := HK3.out; have := HJ23.out; omega
                case rel => exact ⟨(x5_3), (wrap64 (x9_3 + 1)), (ji40), (by first | rfl | (simp; done) | (simp [*]; done)), H', ⟨by have := HK1.out; have := HJ11.out; have := HK3.out; have := HJ23.out; omega⟩, ⟨by (with_reducible repeat (first | apply Kd.R_alloc | apply Kd.R_drewN | apply Kd.R_drew)); exact Kd.R_mono (Kd.R_far (p := ⟨gb105, 0, none⟩) (Kd.R_mono HO_5.out (fun k_ hk => (⟨hk, hk⟩ : _ ∧ k_ ≠ gb105))) (fun _ hk => hk.2) (.int .i64 ji40)) (fun _ hk => hk.1)⟩, ⟨by (with_reducible repeat (first | refine kdn ?_ _ | refine kdr ?_ | refine kal ?_ _)); refine blk_far ?_ NB101_105.out _; (with_reducible repeat (first | refine kdn ?_ _ | refine kdr ?_ | refine kal ?_ _)); exact BK101.out⟩, ⟨by (with_reducible repeat (first | refine kdn ?_ _ | refine kdr ?_ | refine kal ?_ _)); refine blk_far ?_ NB102_105.out _; (with_reducible repeat (first | refine kdn ?_ _ | refine kdr ?_ | refine kal ?_ _)); exact BK102.out⟩, ⟨by (with_reducible repeat (first | refine kdn ?_ _ | refine kdr ?_ | refine kal ?_ _)); refine blk_far ?_ NB103_105.out _; (with_reducible repeat (first | refine kdn ?_ _ | refine kdr ?_ | refine kal ?_ _)); exact BK103.out⟩, ⟨by (with_reducible repeat (first | refine kdn ?_ _ | refine kdr ?_ | refine kal ?_ _)); refine blk_put (cs := #[.int .i64 x106000_3, .int .i64 ((rd_T42 l0_0 x13_1).f1)]) ?_ 0 _ rfl; (with_reducible repeat (first | refine kdn ?_ _ | refine kdr ?_ | refine kal ?_ _)); exact BK105.out⟩, ⟨by repeat (first | (with_reducible first | exact HB.out | apply bal | apply bdn | apply bd1 | refine bst ?_ GE101.out | refine bst ?_ GE102.out | refine bst ?_ GE103.out | refine bst ?_ GE105.out) | exact HB.out)⟩⟩
              ·rw [if_neg c31] at H
               exact absurd H (by simp)
             ·rw [if_neg c30] at H
              exact absurd H (by simp)
            ·replace c29 := Bool.eq_false_iff.mpr c29
             subst c29
             have H1 : (if x106000_3 < ((rd_T42 l0_0 x13_1).f1) then (if x5_3.length < 8796093022208 then (ranges_Set_Less.l0 kj23 (x5_3 ++ [(⟨x106000_3, ((rd_T42 l0_0 x13_1).f1)⟩ : S42)]) x6_11 l0_0 (l0_0.length : Int) (wrap64 (x13_1 + 1)) l1_0) else (none)) else (ranges_Set_Less.l0 kj23 x5_3 x6_11 l0_0 (l0_0.length : Int) (wrap64 (x13_1 + 1)) l1_0)) = some r := by rw [if_neg (show ¬ (false = true) by decide)] at H; exact H
             clear H
             have H := H1
             clear H1
             by_cases c44 : x106000_3 < ((rd_T42 l0_0 x13_1).f1)
             ·rw [if_pos c44] at H
              have c44b0 : decide (x106000_3 < ((rd_T42 l0_0 x13_1).f1)) = true := decide_eq_true c44
              clear c44
              by_cases c45 : x5_3.length < 8796093022208
              ·rw [if_pos c45] at H
               have LMc45 := am c45
               clear c45
               obtain ⟨y115, hy115⟩ : ∃ y_ : List (S42), y_ = (x5_3 ++ [(⟨x106000_3, ((rd_T42 l0_0 x13_1).f1)⟩ : S42)]) := ⟨_, rfl⟩
               replace H : (ranges_Set_Less.l0 kj23 y115 x6_11 l0_0 (l0_0.length : Int) (wrap64 (x13_1 + 1)) l1_0) = some r := by first | (rw [hy115]; with_reducible exact H) | (have H2_ := (Option.bind_some _ _).symm.trans H; rw [hy115]; with_reducible exact H2_) | (have H2_ := (Option.bind_some _ _).symm.trans H; with_reducible exact H2_) | with_reducible exact H | (rw [hy115]; exact H) | exact H
               have Ny115 := am hy115
               clear hy115
               have H' := am H
               clear H
               have hnb46 := NB105_101.out
               have hnc46 := NB101_105.out
               have hnb47 := NB105_102.out
               have hnc47 := NB102_105.out
               have hnb48 := NB105_103.out
               have hnc48 := NB103_105.out
               have hcz49_0 : wc.cell? ⟨gb105, 0, none⟩ = some (.int .i64 x106000_3) := (bcl BK105.out 0).trans rfl
               have hcz49_1 : wc.cell? ⟨gb105, 1, none⟩ = some (.int .i64 ((rd_T42 l0_0 x13_1).f1)) := (bcl BK105.out 1).trans rfl
               have hfz49_0 := bfz BK105.out 0
               have hfz49_1 := bfz BK105.out 1
               go_wp2_with (first | ((with_reducible refine gate_builtin (b := .append) (xs := #[.tmp 90, .tmp 92]) rfl ?_); at_builtin; refine Kd.R_append k42 (w0 := w) w.heap.size rfl (.tmp 90) (.tmp 92) 22 42 (.agg #[(.int .i64 0), (.int .i64 0)]) 16 rfl Tryd.underlying22 info42 rfl (by decide) (by omega) u5 x5_3 (⟨x106000_3, ((rd_T42 l0_0 x13_1).f1)⟩ : S42) [.int .i64 x106000_3, .int .i64 ((rd_T42 l0_0 x13_1).f1)] (fun k_ => k_ ≠ gb105) (fun _ => False) rfl rfl ?aP (fun _ hk => hk.elim) ?aF ?aO ?aB ?aS ?aL ?_; (case aP => exact k42_mkM _ _ _ (⟨x106000_3, ((rd_T42 l0_0 x13_1).f1)⟩ : S42)); (case aB => exact (by repeat (first | (with_reducible first | exact HB.out | apply bal | apply bdn | apply bd1 | refine bst ?_ GE101.out | refine bst ?_ GE102.out | refine bst ?_ GE103.out | refine bst ?_ GE105.out) | exact HB.out))); (case aF => exact (fun k_ hk => Kd.freshB (g := gb105) (o := .cells #[.int .i64 x106000_3, .int .i64 ((rd_T42 l0_0 x13_1).f1)] 42 (0, 0)) (by (with_reducible repeat (first | refine kdn ?_ _ | refine kdr ?_ | refine kal ?_ _)); exact BK105.out) k_ hk)); (case aO => exact (by (with_reducible repeat (first | apply Kd.R_alloc | apply Kd.R_drewN | apply Kd.R_drew)); exact HO_5.out)); (case aS => exact (below_size (by repeat (first | (with_reducible first | exact HB.out | apply bal | apply bdn | apply bd1 | refine bst ?_ GE101.out | refine bst ?_ GE102.out | refine bst ?_ GE103.out | refine bst ?_ GE105.out) | exact HB.out)))); (case aL => have := LMc45.out; omega); intro v116 w50 ho hb hg hat; rw [← Ny115.out] at ho; have n0_ := am (blk_grown (g := gb101) (o := .cells #[.slice (some ad104) l0_0.length c0_0] 29 (0, 0)) (by (with_reducible repeat (first | refine kdn ?_ _ | refine kdr ?_ | refine kal ?_ _)); exact BK101.out) hg (Kd.R_ne HO_5.out BK101.out (by decide))); have n1_ := am (blk_grown (g := gb102) (o := .cells #[.slice A1_0 l1_0.length c1_0] 29 (0, 0)) (by (with_reducible repeat (first | refine kdn ?_ _ | refine kdr ?_ | refine kal ?_ _)); exact BK102.out) hg (Kd.R_ne HO_5.out BK102.out (by decide))); have n2_ := am (blk_grown (g := gb103) (o := .cells #[.slice none 0 0] 29 (0, 0)) (by (with_reducible repeat (first | refine kdn ?_ _ | refine kdr ?_ | refine kal ?_ _)); exact BK103.out) hg (Kd.R_ne HO_5.out BK103.out (by decide))); have n3_ := am (blk_grown (g := gb105) (o := .cells #[.int .i64 x106000_3, .int .i64 ((rd_T42 l0_0 x13_1).f1)] 42 (0, 0)) (by (with_reducible repeat (first | refine kdn ?_ _ | refine kdr ?_ | refine kal ?_ _)); exact BK105.out) hg (Kd.R_away HO_5.out (fun _ hk => hk))); have n4_ := am (hb); have n5_ := am (ho); clear BK101; clear BK102; clear BK103; clear BK105; clear HB; clear HO_5; have BK101 := n0_; have BK102 := n1_; have BK103 := n2_; have BK105 := n3_; have HB := n4_; have HO117 := n5_; clear n0_ n1_ n2_ n3_ n4_ n5_; clear ho hb hg hat))
               go_roundg kj23
               case measure => have := HK1.out; have := HJ11.out; have := HK3.out; have := HJ23.out; omega
               case rel => exact ⟨(y115), (x6_11), (wrap64 (x13_1 + 1)), (by first | rfl | (simp; done) | (simp [*]; done)), (by first | rfl | (simp; done) | (simp [*]; done)), H', ⟨by have := HK1.out; have := HJ11.out; have := HK3.out; have := HJ23.out; omega⟩, ⟨by (with_reducible repeat (first | apply Kd.R_alloc | apply Kd.R_drewN | apply Kd.R_drew)); exact Kd.R_mono HO117.out (fun _ hk => trivial)⟩, ⟨by (with_reducible repeat (first | refine kdn ?_ _ | refine kdr ?_ | refine kal ?_ _)); exact BK101.out⟩, ⟨by (with_reducible repeat (first | refine kdn ?_ _ | refine kdr ?_ | refine kal ?_ _)); exact BK102.out⟩, ⟨by (with_reducible repeat (first | refine kdn ?_ _ | refine kdr ?_ | refine kal ?_ _)); exact BK103.out⟩, ⟨by repeat (first | (with_reducible first | exact HB.out | apply bal | apply bdn | apply bd1 | refine bst ?_ GE101.out | refine bst ?_ GE102.out | refine bst ?_ GE103.out | refine bst ?_ GE105.out) | exact HB.out)⟩⟩
              ·rw [if_neg c45] at H
               exact absurd H (by simp)
             ·rw [if_neg c44] at H
              have c44b0 : decide (x106000_3 < ((rd_T42 l0_0 x13_1).f1)) = false := decide_eq_false c44
              clear c44
              have H' := am H
              clear H
              have hnb51 := NB105_101.out
              have hnc51 := NB101_105.out
              have hnb52 := NB105_102.out
              have hnc52 := NB102_105.out
              have hnb53 := NB105_103.out
              have hnc53 := NB103_105.out
              have hcz54_0 : wc.cell? ⟨gb105, 0, none⟩ = some (.int .i64 x106000_3) := (bcl BK105.out 0).trans rfl
              have hcz54_1 : wc.cell? ⟨gb105, 1, none⟩ = some (.int .i64 ((rd_T42 l0_0 x13_1).f1)) := (bcl BK105.out 1).trans rfl
              have hfz54_0 := bfz BK105.out 0
              have hfz54_1 := bfz BK105.out 1
              go_wp2
              go_roundg kj23
              case measure => have := HK1.out; have := HJ11.out; have := HK3.out; have := HJ23.out; omega
              case rel => exact ⟨(x5_3), (x6_11), (wrap64 (x13_1 + 1)), (by first | rfl | (simp; done) | (simp [*]; done)), (by first | rfl | (simp; done) | (simp [*]; done)), H', ⟨by have := HK1.out; have := HJ11.out; have := HK3.out; have := HJ23.out; omega⟩, ⟨by (with_reducible repeat (first | apply Kd.R_alloc | apply Kd.R_drewN | apply Kd.R_drew)); exact Kd.R_mono HO_5.out (fun _ hk => trivial)⟩, ⟨by (with_reducible repeat (first | refine kdn ?_ _ | refine kdr ?_ | refine kal ?_ _)); exact BK101.out⟩, ⟨by (with_reducible repeat (first | refine kdn ?_ _ | refine kdr ?_ | refine kal ?_ _)); exact BK102.out⟩, ⟨by (with_reducible repeat (first | refine kdn ?_ _ | refine kdr ?_ | refine kal ?_ _)); exact BK103.out⟩, ⟨by repeat (first | (with_reducible first | exact HB.out | apply bal | apply bdn | apply bd1 | refine bst ?_ GE101.out | refine bst ?_ GE102.out | refine bst ?_ GE103.out | refine bst ?_ GE105.out) | exact HB.out)⟩⟩
     ·rw [if_neg c11] at H
      exact absurd H (by simp)
    ·rw [if_neg c10] at H
     exact absurd H (by simp)
   ·rw [if_neg c9] at H
    have c9b0 : decide (x13_1 < (l0_0.length : Int)) = false := decide_eq_false c9
    clear c9
    obtain rfl := Option.some.inj H
    obtain ⟨Ao55, co55, eo55⟩ := Kd.R_slice HO_5.out
    subst eo55
    have hnb56 := NB103_101.out
    have hnc56 := NB101_103.out
    have hnb57 := NB103_102.out
    have hnc57 := NB102_103.out
    have hcz58_0 : wr.cell? ⟨gb103, 0, none⟩ = some (.slice none 0 0) := (bcl BK103.out 0).trans rfl
    have hfz58_0 := bfz BK103.out 0
    go_wp2
    refine bodyPost_ret (results_cell_row rfl _ _ gb103 29 #[.slice Ao55 x5_1.length co55] (0, 0) _ rfl (by (with_reducible repeat (first | refine kdn ?_ _ | refine kdr ?_ | refine kal ?_ _)); refine blk_put (cs := #[.slice none 0 0]) ?_ 0 _ rfl; (with_reducible repeat (first | refine kdn ?_ _ | refine kdr ?_ | refine kal ?_ _)); exact BK103.out) Tryd.underlying29 rfl (by kernel_rfl)) rfl ?_
    exact ⟨_, by first | rfl | (simp [errW_none, errW_some] <;> rfl) | (simp [*, errW_none, errW_some] <;> rfl), by (with_reducible repeat (first | apply Kd.R_alloc | apply Kd.R_drewN | apply Kd.R_drew)); exact Kd.R_mono (Kd.R_far (p := ⟨gb103, 0, none⟩) (Kd.R_types HO_5.out BK103.out (by decide)) (fun _ hk => hk.2) (.slice Ao55 x5_1.length co55)) (fun _ hk => trivial), by repeat (first | (with_reducible first | exact HB.out | apply bal | apply bdn | apply bd1 | refine bst ?_ GE101.out | refine bst ?_ GE102.out | refine bst ?_ GE103.out) | exact HB.out)⟩

end Go.Proofs.YtbgojgoejlhgeaaDoor.Pr
