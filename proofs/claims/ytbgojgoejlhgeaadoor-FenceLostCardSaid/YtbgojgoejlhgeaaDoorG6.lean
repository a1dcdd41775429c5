-- PRINTED by print.py (a twelfth state) out of the translation, parted. Not trusted: Lean checks it.
import Derived.Test.YtbgojgoejlhgeaaDoorG5
namespace Go.Proofs.YtbgojgoejlhgeaaDoor.Pr
open Go.RowKit Go.Proofs.YtbgojgoejlhgeaaDoorW.PrintWords Go.Proofs.YtbgojgoejlhgeaaDoorW.PrintLast Go.Proofs.YtbgojgoejlhgeaaDoorW.PrintMore
attribute [local go_sem] max2_int min2_int max_two min_two max_three min_three max_four min_four
set_option linter.unusedVariables false
set_option linter.unusedSimpArgs false

/-! ### r02_of: function 52 -/
mutual
def r02_of.l0 : Nat → List (S42) → List (S42) → Int → List (S42) → List Int → Int → Option ((List (S42)))
 | 0, _, _, _, _, _, _ => none
 | k + 1, x0, x1, x2, x7, x8, x9 => if (wrap64 (x9 + 1)) < (x8.length : Int) then (if 0 ≤ x9 then (if x9 < (x8.length : Int) then ((r02_In.f k x0 (rd x8 x9)).bind fun t217 => ((r02_In.f k x1 (rd x8 x9)).bind fun t219 => (if x2 = 1 then (if t217 = true then (r02_of.j1 k x0 x1 x2 x7 x8 x9 true) else (if t219 = true then (r02_of.j1 k x0 x1 x2 x7 x8 x9 true) else (if x2 = 2 then (if x2 = 3 then (r02_of.j1 k x0 x1 x2 x7 x8 x9 false) else (r02_of.j1 k x0 x1 x2 x7 x8 x9 false)) else (if x2 = 3 then (r02_of.j1 k x0 x1 x2 x7 x8 x9 false) else (r02_of.j1 k x0 x1 x2 x7 x8 x9 false))))) else (if x2 = 2 then (if t217 = true then (if t219 = true then (r02_of.j1 k x0 x1 x2 x7 x8 x9 true) else (if x2 = 3 then (r02_of.j1 k x0 x1 x2 x7 x8 x9 (!t219)) else (r02_of.j1 k x0 x1 x2 x7 x8 x9 false))) else (if x2 = 3 then (r02_of.j1 k x0 x1 x2 x7 x8 x9 false) else (r02_of.j1 k x0 x1 x2 x7 x8 x9 false))) else (if x2 = 3 then (if t217 = true then (r02_of.j1 k x0 x1 x2 x7 x8 x9 (!t219)) else (r02_of.j1 k x0 x1 x2 x7 x8 x9 false)) else (r02_of.j1 k x0 x1 x2 x7 x8 x9 false)))))) else (none)) else (none)) else (some x7)
def r02_of.j1 : Nat → List (S42) → List (S42) → Int → List (S42) → List Int → Int → Bool → Option ((List (S42)))
 | 0, _, _, _, _, _, _, _ => none
 | k + 1, x0, x1, x2, x7, x8, x9, x12 => if x12 = true then (if (wrap64 ((x7.length : Int) - 1)) ≥ 0 then (if 0 ≤ (wrap64 ((x7.length : Int) - 1)) then (if (wrap64 ((x7.length : Int) - 1)) < (x7.length : Int) then (if 0 ≤ x9 then (if x9 < (x8.length : Int) then (if ((rd_T42 x7 (wrap64 ((x7.length : Int) - 1))).f1) = (rd x8 x9) then (if 0 ≤ (wrap64 (x9 + 1)) then (if (wrap64 (x9 + 1)) < (x8.length : Int) then (r02_of.l0 k x0 x1 x2 (x7.set ((wrap64 ((x7.length : Int) - 1)) : Int).toNat (⟨(rd_T42 x7 (wrap64 ((x7.length : Int) - 1))).f0, rd x8 (wrap64 (x9 + 1))⟩ : S42)) x8 (wrap64 (x9 + 1))) else (none)) else (none)) else (if 0 ≤ (wrap64 (x9 + 1)) then (if (wrap64 (x9 + 1)) < (x8.length : Int) then (if x7.length < 8796093022208 then (r02_of.l0 k x0 x1 x2 (x7 ++ [(⟨rd x8 x9, rd x8 (wrap64 (x9 + 1))⟩ : S42)]) x8 (wrap64 (x9 + 1))) else (none)) else (none)) else (none))) else (none)) else (none)) else (none)) else (none)) else (if 0 ≤ x9 then (if x9 < (x8.length : Int) then (if 0 ≤ (wrap64 (x9 + 1)) then (if (wrap64 (x9 + 1)) < (x8.length : Int) then (if x7.length < 8796093022208 then (r02_of.l0 k x0 x1 x2 (x7 ++ [(⟨rd x8 x9, rd x8 (wrap64 (x9 + 1))⟩ : S42)]) x8 (wrap64 (x9 + 1))) else (none)) else (none)) else (none)) else (none)) else (none))) else (r02_of.l0 k x0 x1 x2 x7 x8 (wrap64 (x9 + 1)))
end
def r02_of.f (k : Nat) (l0 : List (S42)) (l1 : List (S42)) (a2 : Int) : Option ((List (S42))) := (r02_ends.f k l0 l1).bind fun t213 => (r02_of.l0 k l0 l1 a2 ([] : List (S42)) t213 0)
theorem r02_of.mono_l : ∀ k, (∀ y0 y1 y2 y3 y4 y5, LeO (r02_of.l0 k y0 y1 y2 y3 y4 y5) (r02_of.l0 (k + 1) y0 y1 y2 y3 y4 y5)) ∧ (∀ y0 y1 y2 y3 y4 y5 y6, LeO (r02_of.j1 k y0 y1 y2 y3 y4 y5 y6) (r02_of.j1 (k + 1) y0 y1 y2 y3 y4 y5 y6))
 | 0 => ⟨fun _ _ _ _ _ _ r h => by simp [r02_of.l0] at h, fun _ _ _ _ _ _ _ r h => by simp [r02_of.j1] at h⟩
 | k + 1 => by
  obtain ⟨ih0, ih1⟩ := r02_of.mono_l k
  refine ⟨?_, ?_⟩
  ·intro y0 y1 y2 y3 y4 y5
   unfold r02_of.l0
   repeat' first
   | (with_reducible exact ih0 _ _ _ _ _ _)
   | (with_reducible exact ih1 _ _ _ _ _ _ _)
   | (with_reducible exact r02_In.mono _ _ _)
   | (with_reducible exact r02_ends.mono _ _ _)
   | (with_reducible exact LeO.refl _)
   | (with_reducible exact LeO.none _)
   | (with_reducible refine LeO.ite ?_ ?_)
   | (with_reducible refine LeO.bind ?_ (fun _ => ?_))
   | exact ih0 _ _ _ _ _ _
   | exact ih1 _ _ _ _ _ _ _
   | exact r02_In.mono _ _ _
   | exact r02_ends.mono _ _ _
   | exact LeO.none _
   | refine LeO.ite ?_ ?_
   | refine LeO.bind ?_ (fun _ => ?_)
  ·intro y0 y1 y2 y3 y4 y5 y6
   unfold r02_of.j1
   repeat' first
   | (with_reducible exact ih0 _ _ _ _ _ _)
   | (with_reducible exact ih1 _ _ _ _ _ _ _)
   | (with_reducible exact r02_In.mono _ _ _)
   | (with_reducible exact r02_ends.mono _ _ _)
   | (with_reducible exact LeO.refl _)
   | (with_reducible exact LeO.none _)
   | (with_reducible refine LeO.ite ?_ ?_)
   | (with_reducible refine LeO.bind ?_ (fun _ => ?_))
   | exact ih0 _ _ _ _ _ _
   | exact ih1 _ _ _ _ _ _ _
   | exact r02_In.mono _ _ _
   | exact r02_ends.mono _ _ _
   | exact LeO.none _
   | refine LeO.ite ?_ ?_
   | refine LeO.bind ?_ (fun _ => ?_)
theorem r02_of.mono : ∀ a0 a1 a2 k, LeO (r02_of.f k a0 a1 a2) (r02_of.f (k + 1) a0 a1 a2) := by
 intro a0 a1 a2 k
 obtain ⟨ih0, ih1⟩ := r02_of.mono_l k
 unfold r02_of.f
 repeat' first
   | (with_reducible exact ih0 _ _ _ _ _ _)
   | (with_reducible exact ih1 _ _ _ _ _ _ _)
   | (with_reducible exact r02_In.mono _ _ _)
   | (with_reducible exact r02_ends.mono _ _ _)
   | (with_reducible exact LeO.refl _)
   | (with_reducible exact LeO.none _)
   | (with_reducible refine LeO.ite ?_ ?_)
   | (with_reducible refine LeO.bind ?_ (fun _ => ?_))
   | exact ih0 _ _ _ _ _ _
   | exact ih1 _ _ _ _ _ _ _
   | exact r02_In.mono _ _ _
   | exact r02_ends.mono _ _ _
   | exact LeO.none _
   | refine LeO.ite ?_ ?_
   | refine LeO.bind ?_ (fun _ => ?_)
def r02_of.T6 : Bool × List (List Nat × List Nat) := (true, [([], []), ([], []), ([], []), ([1, 2], [1, 2]), ([3], [3]), ([0, 4], [0, 4]), ([], []), ([], []), ([], []), ([7, 8], [7, 8]), ([9], [9]), ([6, 10, 5], [6, 10]), ([5, 11, 0, 1, 2, 3, 4, 5], [5]), ([11, 12, 0, 1, 2, 3, 4, 5, 6, 7, 8, 9, 10, 11, 12], [11])])
def r02_of.B6 : List Nat := [0, 0, 0, 6, 14, 31, 0, 0, 0, 384, 896, 2047, 4095, 8191]
theorem r02_of.tab6 : rtab .any (opsOf Tryd.f52 6) = r02_of.T6 := by kernel_rfl
theorem r02_of.bits6 : waitsOk r02_of.T6.2 r02_of.B6 = true := by kernel_rfl
def r02_of.T10 : Bool × List (List Nat × List Nat) := (true, [([], []), ([0], [0]), ([1], [1]), ([2], [2]), ([2], [2]), ([3, 4, 2], [2, 3, 4]), ([5, 2], [2, 5]), ([6, 2], [2, 6]), ([2], [2]), ([2], [2]), ([8, 9, 2], [2, 8, 9]), ([10, 2], [2, 10]), ([7, 11, 2], [2, 7, 11]), ([2, 12], [2, 12])])
def r02_of.B10 : List Nat := [0, 1, 3, 7, 7, 31, 63, 127, 7, 7, 775, 1799, 4095, 8191]
theorem r02_of.tab10 : rtab .any (opsOf Tryd.f52 10) = r02_of.T10 := by kernel_rfl
theorem r02_of.bits10 : waitsOk r02_of.T10.2 r02_of.B10 = true := by kernel_rfl
def r02_of.T12 : Bool × List (List Nat × List Nat) := (true, [([], []), ([], []), ([], []), ([1, 2], [1, 2]), ([3], [3]), ([], []), ([], []), ([6], [6]), ([5, 7], [5, 7]), ([8], [8]), ([4, 9], [4, 9]), ([10], [10]), ([0, 11], [0, 11]), ([12, 12, 0, 1, 2, 3, 4, 5, 6, 7, 8, 9, 10, 11, 12], [0, 12])])
def r02_of.B12 : List Nat := [0, 0, 0, 6, 14, 0, 0, 64, 224, 480, 1022, 2046, 4095, 8191]
theorem r02_of.tab12 : rtab .any (opsOf Tryd.f52 12) = r02_of.T12 := by kernel_rfl
theorem r02_of.bits12 : waitsOk r02_of.T12.2 r02_of.B12 = true := by kernel_rfl
set_option maxHeartbeats 8000000 in
set_option maxRecDepth 100000 in
theorem r02_of.calls (k : Nat) (A0 : Option Addr) (c0 : Nat) (l0 : List (S42)) (A1 : Option Addr) (c1 : Nat) (l1 : List (S42)) (a2 : Int) (r : List (S42)) (w : World) (hr0 : Kd.C k42 w A0 l0.length l0) (hc0 : l0.length ≤ c0) (hr1 : Kd.C k42 w A1 l1.length l1) (hc1 : l1.length ≤ c1) (h : r02_of.f k l0 l1 a2 = some r) :
  Calls Tryd.prog 52 #[.slice A0 l0.length c0, .slice A1 l1.length c1, .int .i64 a2] w fun e w' => ∃ v0_ : Value, e = .returned (v0_) ∧ Kd.R k42 42 w' w.heap.size (fun _ => True) v0_ r ∧ Below w.heap.size w w' := by
 have hu42 := Tryd.underlying42
 have HR0 := am hr0
 have HC0 := am hc0
 clear hr0 hc0
 have HR1 := am hr1
 have HC1 := am hc1
 clear hr1 hc1
 have HB := am (Below.refl w.heap.size w)
 have H : ((r02_ends.f k l0 l1).bind fun t213 => (r02_of.l0 k l0 l1 a2 ([] : List (S42)) t213 0)) = some r := h
 clear h
 replace H := Option.bind_eq_some_iff.mp H
 obtain ⟨t213, A40, H⟩ := H
 replace H : (r02_of.l0 k l0 l1 a2 ([] : List (S42)) t213 0) = some r := H
 have A4 := am A40
 clear A40
 have H' := am H
 clear H
 go_enter Tryd.func52, Tryd.ntmps52
 go_wp2_with (first | ((with_reducible refine gate_callee (f := 66) rfl ?_); refine goesL_ (some 16) rfl rfl Tryd.func66 (by kernel_rfl) rfl #[.slice A0 l0.length c0, .slice A1 l1.length c1] rfl (by (try simp only [List.map_toArray, List.map_cons, List.map_nil]); first | done | rfl | (simp only [List.length_drop, List.length_take]; rfl)) ?_; (with_reducible refine (r02_ends.calls k _ _ l0 _ _ l1 t213 _ ?side1 ?side2 ?side3 ?side4 A4.out).mono ?_); (case side1 => repeat (first | exact HR0.out | (with_reducible refine Kd.C_alloc ?_ _) | (with_reducible refine Kd.C_drewN ?_ _) | (with_reducible refine Kd.C_drew ?_))); (case side2 => exact HC0.out); (case side3 => repeat (first | exact HR1.out | (with_reducible refine Kd.C_alloc ?_ _) | (with_reducible refine Kd.C_drewN ?_ _) | (with_reducible refine Kd.C_drew ?_))); (case side4 => exact HC1.out); rintro e w5 ⟨v214, rfl, ho0, hb⟩; refine ⟨_, rfl, ?_⟩; have n0_ := am (Kd.R_lower ho0 (below_size (by repeat (first | (with_reducible first | exact HB.out | apply bal | apply bdn | apply bd1) | exact HB.out)))); have n1_ := am (below_step (by repeat (first | (with_reducible first | exact HB.out | apply bal | apply bdn | apply bd1) | exact HB.out)) hb); clear HB; have HO215 := n0_; have HB := n1_; clear n0_ n1_; (try clear hb); (try clear hb2); (try clear hk); (try clear hi); (try clear ho0)))
 go_loopg [7, 9] k (fun kq v7 v9 w' => ∃ (x7_1 : List (S42)) (x9_1 : Int), v9 = .int .i64 x9_1 ∧ Aside0 (r02_of.l0 kq l0 l1 a2 x7_1 t213 x9_1 = some r) ∧ Aside0 (kq ≤ k) ∧ Aside0 (Kd.R k42 42 w' w.heap.size (fun _ => True) v7 x7_1) ∧ Aside0 (Kd.R (Kd.int .i64) 2 w' w.heap.size (fun _ => True) v214 t213) ∧ Aside0 (Below w.heap.size w w'))
 case atStart => exact ⟨(([] : List (S42))), (0), (by first | rfl | (simp; done) | (simp [*]; done)), H', ⟨Nat.le_refl _⟩, ⟨by first | exact Kd.R_nil _ _ _ _ _ | exact Kd.N_nil _ _ _ _ _ | exact Kd.V_nil _ _ _ _ _ | exact Kd.Q_nil _ _ _ _ _ | exact Kd.S_nil _ _ _ _ _⟩, ⟨by (with_reducible repeat (first | apply Kd.R_alloc | apply Kd.R_drewN | apply Kd.R_drew)); exact HO215.out⟩, ⟨by repeat (first | (with_reducible first | exact HB.out | apply bal | apply bdn | apply bd1) | exact HB.out)⟩⟩
 case round =>
  clear H'
  try clear c1
  try clear p2
  try clear c5
  obtain ⟨x7_1, x9_1, rfl, HA, HK1, HO_7, HO_8, HB⟩ := hrel
  cases gk with
  | zero => exact absurd HA.out (by simp [r02_of.l0])
  | succ k1 =>
   have H := HA.out
   clear HA
   simp only [r02_of.l0] at H
   by_cases c6 : (wrap64 (x9_1 + 1)) < (t213.length : Int)
   ·rw [if_pos c6] at H
    have c6b0 : decide ((wrap64 (x9_1 + 1)) < (t213.length : Int)) = true := decide_eq_true c6
    clear c6
    by_cases c7 : 0 ≤ x9_1
    ·rw [if_pos c7] at H
     have c7b0 : decide (0 ≤ x9_1) = true := decide_eq_true c7
     clear c7
     by_cases c8 : x9_1 < (t213.length : Int)
     ·rw [if_pos c8] at H
      have c8b0 : decide (x9_1 < (t213.length : Int)) = true := decide_eq_true c8
      clear c8
      replace H := Option.bind_eq_some_iff.mp H
      obtain ⟨t217, A90, H⟩ := H
      replace H : ((r02_In.f k1 l1 (rd t213 x9_1)).bind fun t219 => (if a2 = 1 then (if t217 = true then (r02_of.j1 k1 l0 l1 a2 x7_1 t213 x9_1 true) else (if t219 = true then (r02_of.j1 k1 l0 l1 a2 x7_1 t213 x9_1 true) else (if a2 = 2 then (if a2 = 3 then (r02_of.j1 k1 l0 l1 a2 x7_1 t213 x9_1 false) else (r02_of.j1 k1 l0 l1 a2 x7_1 t213 x9_1 false)) else (if a2 = 3 then (r02_of.j1 k1 l0 l1 a2 x7_1 t213 x9_1 false) else (r02_of.j1 k1 l0 l1 a2 x7_1 t213 x9_1 false))))) else (if a2 = 2 then (if t217 = true then (if t219 = true then (r02_of.j1 k1 l0 l1 a2 x7_1 t213 x9_1 true) else (if a2 = 3 then (r02_of.j1 k1 l0 l1 a2 x7_1 t213 x9_1 (!t219)) else (r02_of.j1 k1 l0 l1 a2 x7_1 t213 x9_1 false))) else (if a2 = 3 then (r02_of.j1 k1 l0 l1 a2 x7_1 t213 x9_1 false) else (r02_of.j1 k1 l0 l1 a2 x7_1 t213 x9_1 false))) else (if a2 = 3 then (if t217 = true then (r02_of.j1 k1 l0 l1 a2 x7_1 t213 x9_1 (!t219)) else (r02_of.j1 k1 l0 l1 a2 x7_1 t213 x9_1 false)) else (r02_of.j1 k1 l0 l1 a2 x7_1 t213 x9_1 false))))) = some r := H
      have A9 := am A90
      clear A90
      replace H := Option.bind_eq_some_iff.mp H
      obtain ⟨t219, A100, H⟩ := H
      replace H : (if a2 = 1 then (if t217 = true then (r02_of.j1 k1 l0 l1 a2 x7_1 t213 x9_1 true) else (if t219 = true then (r02_of.j1 k1 l0 l1 a2 x7_1 t213 x9_1 true) else (if a2 = 2 then (if a2 = 3 then (r02_of.j1 k1 l0 l1 a2 x7_1 t213 x9_1 false) else (r02_of.j1 k1 l0 l1 a2 x7_1 t213 x9_1 false)) else (if a2 = 3 then (r02_of.j1 k1 l0 l1 a2 x7_1 t213 x9_1 false) else (r02_of.j1 k1 l0 l1 a2 x7_1 t213 x9_1 false))))) else (if a2 = 2 then (if t217 = true then (if t219 = true then (r02_of.j1 k1 l0 l1 a2 x7_1 t213 x9_1 true) else (if a2 = 3 then (r02_of.j1 k1 l0 l1 a2 x7_1 t213 x9_1 (!t219)) else (r02_of.j1 k1 l0 l1 a2 x7_1 t213 x9_1 false))) else (if a2 = 3 then (r02_of.j1 k1 l0 l1 a2 x7_1 t213 x9_1 false) else (r02_of.j1 k1 l0 l1 a2 x7_1 t213 x9_1 false))) else (if a2 = 3 then (if t217 = true then (r02_of.j1 k1 l0 l1 a2 x7_1 t213 x9_1 (!t219)) else (r02_of.j1 k1 l0 l1 a2 x7_1 t213 x9_1 false)) else (r02_of.j1 k1 l0 l1 a2 x7_1 t213 x9_1 false)))) = some r := H
      have A10 := am A100
      clear A100
      have HC11 := am H
      clear H
      obtain ⟨Ao12, co12, eo12⟩ := Kd.R_slice HO_8.out
      subst eo12
      try go_wp2
      have n0_ := am (Kd.R_drew HO_7.out)
      have n1_ := am (Kd.R_drew HO_8.out)
      have n2_ := am (bd1 HB.out)
      clear HO_7
      clear HO_8
      clear HB
      have HO_7 := n0_
      have HO_8 := n1_
      have HB := n2_
      clear n0_ n1_ n2_
      have p216 : 0 ≤ (x9_1 : Int) := of_decide_eq_true (by first | (with_reducible assumption) | assumption)
      have q216 : x9_1 < (t213.length : Int) := of_decide_eq_true (by first | (with_reducible assumption) | assumption)
      obtain ⟨ad216, e216, hx216_0⟩ := Kd.at_int (Kd.R_reads' HO_8.out).2.2 x9_1 p216 q216
      cases e216
      replace p216 := eq_true p216
      replace q216 := eq_true q216
      have p218 : 0 ≤ (x9_1 : Int) := of_decide_eq_true (by first | (with_reducible assumption) | assumption)
      have q218 : x9_1 < (t213.length : Int) := of_decide_eq_true (by first | (with_reducible assumption) | assumption)
      obtain ⟨ad218, e218, hx218_0⟩ := Kd.at_int (Kd.R_reads' HO_8.out).2.2 x9_1 p218 q218
      obtain rfl : ad216 = ad218 := (by injection e218)
      replace p218 := eq_true p218
      replace q218 := eq_true q218
      refine start_ (n := 14) (S := fun w' => w'.cell? (ad216.add (x9_1).toNat) = some (.int .i64 (rd t213 x9_1)) ∧ w'.cell? (ad216.add (x9_1).toNat) = some (.int .i64 (rd t213 x9_1))) (ds := []) #[false, false, false, false, false, false, false, false, false, false, false, false, false, false] (by kernel_rfl) rfl rfl ⟨hx216_0, hx218_0⟩ (fun hHeld => ?_); refine with_tabW r02_of.tab6 r02_of.bits6 (fun HT_ HW_ => ?_)
      generalize wr.drew = w13 at HO_7 HO_8 HB hx216_0 hx218_0 hHeld ⊢
      refine pure_ (i := 0) (N := some 24) (v := ?_) (a' := ?_) #[true, false, false, false, false, false, false, false, false, false, false, false, false, false] rfl rfl (any_of HT_.out (by kernel_rfl)) (fun _ _ _ h => h) (Or.inl ⟨by rfl, ?_⟩) ?_ ?_
      rotate_left
      ·intro w'
       go_simp
       with_reducible rfl
      rotate_left
      ·simp only [Act.put, sb1, sb2, sb3, i64_w, i32_w]
       rfl
      refine pure_ (i := 1) (N := some 25) (v := ?_) (a' := ?_) #[true, true, false, false, false, false, false, false, false, false, false, false, false, false] rfl rfl (any_of HT_.out (by kernel_rfl)) (fun _ _ _ h => h) (Or.inl ⟨by rfl, ?_⟩) ?_ ?_
      rotate_left
      ·intro w'
       go_simp
       with_reducible rfl
      rotate_left
      ·simp only [Act.put, sb1, sb2, sb3, i64_w, i32_w]
       rfl
      refine pure_ (i := 2) (N := some 26) (v := ?_) (a' := ?_) #[true, true, true, false, false, false, false, false, false, false, false, false, false, false] rfl rfl (any_of HT_.out (by kernel_rfl)) (fun _ _ _ h => h) (Or.inl ⟨by rfl, ?_⟩) ?_ ?_
      rotate_left
      ·intro w'
       go_simp
       with_reducible rfl
      rotate_left
      ·simp only [Act.put, sb1, sb2, sb3, i64_w, i32_w]
       rfl
      refine pure_ (i := 3) (N := some 27) (v := ?_) (a' := ?_) #[true, true, true, true, false, false, false, false, false, false, false, false, false, false] rfl rfl (any_of HT_.out (by kernel_rfl)) (fun _ _ _ h => h) (Or.inl ⟨by rfl, ?_⟩) ?_ ?_
      rotate_left
      ·intro w'
       go_simp
       with_reducible rfl
      rotate_left
      ·simp only [Act.put, sb1, sb2, sb3, i64_w, i32_w]
       rfl
      refine pure_ (i := 6) (N := some 30) (v := ?_) (a' := ?_) #[true, true, true, true, false, false, true, false, false, false, false, false, false, false] rfl rfl (any_of HT_.out (by kernel_rfl)) (fun _ _ _ h => h) (Or.inl ⟨by rfl, ?_⟩) ?_ ?_
      rotate_left
      ·intro w'
       go_simp
       with_reducible rfl
      rotate_left
      ·simp only [Act.put, sb1, sb2, sb3, i64_w, i32_w]
       rfl
      refine pure_ (i := 7) (N := some 31) (v := ?_) (a' := ?_) #[true, true, true, true, false, false, true, true, false, false, false, false, false, false] rfl rfl (any_of HT_.out (by kernel_rfl)) (fun _ _ _ h => h) (Or.inl ⟨by rfl, ?_⟩) ?_ ?_
      rotate_left
      ·intro w'
       go_simp
       with_reducible rfl
      rotate_left
      ·simp only [Act.put, sb1, sb2, sb3, i64_w, i32_w]
       rfl
      refine pure_ (i := 8) (N := some 32) (v := ?_) (a' := ?_) #[true, true, true, true, false, false, true, true, true, false, false, false, false, false] rfl rfl (any_of HT_.out (by kernel_rfl)) (fun _ _ _ h => h) (Or.inl ⟨by rfl, ?_⟩) ?_ ?_
      rotate_left
      ·intro w'
       go_simp
       with_reducible rfl
      rotate_left
      ·simp only [Act.put, sb1, sb2, sb3, i64_w, i32_w]
       rfl
      refine pure_ (i := 9) (N := some 33) (v := ?_) (a' := ?_) #[true, true, true, true, false, false, true, true, true, true, false, false, false, false] rfl rfl (any_of HT_.out (by kernel_rfl)) (fun _ _ _ h => h) (Or.inl ⟨by rfl, ?_⟩) ?_ ?_
      rotate_left
      ·intro w'
       go_simp
       with_reducible rfl
      rotate_left
      ·simp only [Act.put, sb1, sb2, sb3, i64_w, i32_w]
       rfl
      refine take_ (i := 4) (N := some 28) (v := ?_) (a' := ?_) #[true, true, true, true, true, false, true, true, true, true, false, false, false, false] rfl rfl (take_ofW HT_.out HW_.out (by kernel_rfl)) (fun _ _ _ h => h) (Or.inl ⟨by rfl, ?_⟩) hHeld ?_ ?_
      rotate_left
      ·rintro w' ⟨s0, s1⟩
       go_simp
       with_reducible rfl
      rotate_left
      ·simp only [Act.put, sb1, sb2, sb3, i64_w, i32_w]
       rfl
      refine take_ (i := 10) (N := some 34) (v := ?_) (a' := ?_) #[true, true, true, true, true, false, true, true, true, true, true, false, false, false] rfl rfl (take_ofW HT_.out HW_.out (by kernel_rfl)) (fun _ _ _ h => h) (Or.inl ⟨by rfl, ?_⟩) hHeld ?_ ?_
      rotate_left
      ·rintro w' ⟨s0, s1⟩
       go_simp
       with_reducible rfl
      rotate_left
      ·simp only [Act.put, sb1, sb2, sb3, i64_w, i32_w]
       rfl
      refine one_ (i := 5) (N := some 29) #[true, true, true, true, true, true, true, true, true, true, true, false, false, false] rfl rfl (one_of HT_.out (by kernel_rfl)) (by decide) (fun K hK => ?_)
      refine goes_ Tryd.func36 (by kernel_rfl) rfl #[.slice A0 l0.length c0, .int .i64 (rd t213 x9_1)] (by rfl) rfl rfl (by (try simp only [List.map_toArray, List.map_cons, List.map_nil]); first | done | rfl | (simp only [List.length_drop, List.length_take]; rfl)) ?_
      with_reducible refine (r02_In.calls k1 _ _ l0 (rd t213 x9_1) t217 _ ?side1 ?side2 A9.out).mono ?_
      (case side1 => repeat (first | exact (Kd.C_below HR0.out HB.out) | (with_reducible refine Kd.C_alloc ?_ _) | (with_reducible refine Kd.C_drewN ?_ _) | (with_reducible refine Kd.C_drew ?_)))
      (case side2 => exact HC0.out)
      rintro e w14 ⟨rfl, hb⟩
      have HS0_ := (hb.cell (World.block_lt_of_cell? _ _ (hHeld.1))).trans (hHeld.1)
      have HS1_ := (hb.cell (World.block_lt_of_cell? _ _ (hHeld.2))).trans (hHeld.2)
      refine ⟨_, rfl, ?_⟩
      have n0_ := am (Kd.R_below (by (with_reducible repeat (first | apply Kd.R_alloc | apply Kd.R_drewN | apply Kd.R_drew)); exact HO_7.out) hb)
      have n1_ := am (Kd.R_below (by (with_reducible repeat (first | apply Kd.R_alloc | apply Kd.R_drewN | apply Kd.R_drew)); exact HO_8.out) hb)
      have n2_ := am (below_step (by repeat (first | (with_reducible first | exact HB.out | apply bal | apply bdn | apply bd1) | exact HB.out)) hb)
      clear HO_7
      clear HO_8
      clear HB
      have HO_7 := n0_
      have HO_8 := n1_
      have HB := n2_
      clear n0_ n1_ n2_
      (try clear hb)
      (try clear hb2)
      (try clear hk)
      (try clear hi)
      refine hK.out _ _ ⟨HS0_, HS1_⟩ (fun hHeld => ?_)
      clear hK K
      refine norm_ (a' := ?_) ?_ ?_
      rotate_left
      ·show Act.put _ (some 29) _ = _
       simp only [Act.put, sb1, sb2, sb3, i64_w, i32_w]
       rfl
      refine one_ (i := 11) (N := some 35) #[true, true, true, true, true, true, true, true, true, true, true, true, false, false] rfl rfl (one_of HT_.out (by kernel_rfl)) (by decide) (fun K hK => ?_)
      refine goes_ Tryd.func36 (by kernel_rfl) rfl #[.slice A1 l1.length c1, .int .i64 (rd t213 x9_1)] (by rfl) rfl rfl (by (try simp only [List.map_toArray, List.map_cons, List.map_nil]); first | done | rfl | (simp only [List.length_drop, List.length_take]; rfl)) ?_
      with_reducible refine (r02_In.calls k1 _ _ l1 (rd t213 x9_1) t219 _ ?side1 ?side2 A10.out).mono ?_
      (case side1 => repeat (first | exact (Kd.C_below HR1.out HB.out) | (with_reducible refine Kd.C_alloc ?_ _) | (with_reducible refine Kd.C_drewN ?_ _) | (with_reducible refine Kd.C_drew ?_)))
      (case side2 => exact HC1.out)
      rintro e w15 ⟨rfl, hb⟩
      have HS0_ := (hb.cell (World.block_lt_of_cell? _ _ (hHeld.1))).trans (hHeld.1)
      have HS1_ := (hb.cell (World.block_lt_of_cell? _ _ (hHeld.2))).trans (hHeld.2)
      refine ⟨_, rfl, ?_⟩
      have n0_ := am (Kd.R_below (by (with_reducible repeat (first | apply Kd.R_alloc | apply Kd.R_drewN | apply Kd.R_drew)); exact HO_7.out) hb)
      have n1_ := am (Kd.R_below (by (with_reducible repeat (first | apply Kd.R_alloc | apply Kd.R_drewN | apply Kd.R_drew)); exact HO_8.out) hb)
      have n2_ := am (below_step (by repeat (first | (with_reducible first | exact HB.out | apply bal | apply bdn | apply bd1) | exact HB.out)) hb)
      clear HO_7
      clear HO_8
      clear HB
      have HO_7 := n0_
      have HO_8 := n1_
      have HB := n2_
      clear n0_ n1_ n2_
      (try clear hb)
      (try clear hb2)
      (try clear hk)
      (try clear hi)
      refine hK.out _ _ ⟨HS0_, HS1_⟩ (fun hHeld => ?_)
      clear hK K
      refine norm_ (a' := ?_) ?_ ?_
      rotate_left
      ·show Act.put _ (some 35) _ = _
       simp only [Act.put, sb1, sb2, sb3, i64_w, i32_w]
       rfl
      refine pure_ (i := 12) (N := some 10) (v := ?_) (a' := ?_) #[true, true, true, true, true, true, true, true, true, true, true, true, true, false] rfl rfl (any_of HT_.out (by kernel_rfl)) (fun _ _ _ h => h) (Or.inl ⟨by rfl, ?_⟩) ?_ ?_
      rotate_left
      ·intro w'
       go_simp
       with_reducible rfl
      rotate_left
      ·simp only [Act.put, sb1, sb2, sb3, i64_w, i32_w]
       rfl
      refine pure_ (i := 13) (N := some 11) (v := ?_) (a' := ?_) #[true, true, true, true, true, true, true, true, true, true, true, true, true, true] rfl rfl (any_of HT_.out (by kernel_rfl)) (fun _ _ _ h => h) (Or.inl ⟨by rfl, ?_⟩) ?_ ?_
      rotate_left
      ·intro w'
       go_simp
       with_reducible rfl
      rotate_left
      ·simp only [Act.put, sb1, sb2, sb3, i64_w, i32_w]
       rfl
      refine done_ (done_of HT_.out (by kernel_rfl)) ?_
      go_upto_region 7 with (fail)
      go_cut [12] (fun v12 wc => ∃ (kq : Nat) (x12_10 : Bool), v12 = .bool x12_10 ∧ Aside0 (r02_of.j1 kq l0 l1 a2 x7_1 t213 x9_1 x12_10 = some r) ∧ Aside0 (kq ≤ k1) ∧ Aside0 (Kd.R k42 42 wc w.heap.size (fun _ => True) u7 x7_1) ∧ Aside0 (Kd.R (Kd.int .i64) 2 wc w.heap.size (fun _ => True) (.slice (some ad216) t213.length co12) t213) ∧ Aside0 (Below w.heap.size w wc))
      case first =>
       have H := HC11.out
       clear HC11
       by_cases c16 : a2 = 1
       ·rw [if_pos c16] at H
        have c16b0 : (a2 == 1) = true := beq_iff_eq.mpr c16
        have c16b1 : (a2 != 1) = false := bne_eq_false_iff_eq.mpr c16
        clear c16
        (first | rw [c16b0] | (simp only [i64_w, i32_w]; rw [c16b0]) | skip)
        by_cases c17 : t217 = true
        ·subst c17
         have H1 : (r02_of.j1 k1 l0 l1 a2 x7_1 t213 x9_1 true) = some r := by rw [if_pos rfl] at H; exact H
         clear H
         have H := H1
         clear H1
         have H' := am H
         clear H
         go_wp2
         go_meet
         case rel => exact ⟨_, (true), (by first | rfl | (simp; done) | (simp [*]; done)), H', ⟨by have := HK1.out; first | omega | exact Nat.le_refl _⟩, ⟨by (with_reducible repeat (first | apply Kd.R_alloc | apply Kd.R_drewN | apply Kd.R_drew)); exact HO_7.out⟩, ⟨by (with_reducible repeat (first | apply Kd.R_alloc | apply Kd.R_drewN | apply Kd.R_drew)); exact HO_8.out⟩, ⟨by repeat (first | (with_reducible first | exact HB.out | apply bal | apply bdn | apply bd1) | exact HB.out)⟩⟩
        ·replace c17 := Bool.eq_false_iff.mpr c17
         subst c17
         have H1 : (if t219 = true then (r02_of.j1 k1 l0 l1 a2 x7_1 t213 x9_1 true) else (if a2 = 2 then (if a2 = 3 then (r02_of.j1 k1 l0 l1 a2 x7_1 t213 x9_1 false) else (r02_of.j1 k1 l0 l1 a2 x7_1 t213 x9_1 false)) else (if a2 = 3 then (r02_of.j1 k1 l0 l1 a2 x7_1 t213 x9_1 false) else (r02_of.j1 k1 l0 l1 a2 x7_1 t213 x9_1 false)))) = some r := by rw [if_neg (show ¬ (false = true) by decide)] at H; exact H
         clear H
         have H := H1
         clear H1
         by_cases c18 : t219 = true
         ·subst c18
          have H1 : (r02_of.j1 k1 l0 l1 a2 x7_1 t213 x9_1 true) = some r := by rw [if_pos rfl] at H; exact H
          clear H
          have H := H1
          clear H1
          have H' := am H
          clear H
          go_wp2
          go_meet
          case rel => exact ⟨_, (true), (by first | rfl | (simp; done) | (simp [*]; done)), H', ⟨by have := HK1.out; first | omega | exact Nat.le_refl _⟩, ⟨by (with_reducible repeat (first | apply Kd.R_alloc | apply Kd.R_drewN | apply Kd.R_drew)); exact HO_7.out⟩, ⟨by (with_reducible repeat (first | apply Kd.R_alloc | apply Kd.R_drewN | apply Kd.R_drew)); exact HO_8.out⟩, ⟨by repeat (first | (with_reducible first | exact HB.out | apply bal | apply bdn | apply bd1) | exact HB.out)⟩⟩
         ·replace c18 := Bool.eq_false_iff.mpr c18
          subst c18
          have H1 : (if a2 = 2 then (if a2 = 3 then (r02_of.j1 k1 l0 l1 a2 x7_1 t213 x9_1 false) else (r02_of.j1 k1 l0 l1 a2 x7_1 t213 x9_1 false)) else (if a2 = 3 then (r02_of.j1 k1 l0 l1 a2 x7_1 t213 x9_1 false) else (r02_of.j1 k1 l0 l1 a2 x7_1 t213 x9_1 false))) = some r := by rw [if_neg (show ¬ (false = true) by decide)] at H; exact H
          clear H
          have H := H1
          clear H1
          by_cases c19 : a2 = 2
          ·rw [if_pos c19] at H
           have c19b0 : (a2 == 2) = true := beq_iff_eq.mpr c19
           have c19b1 : (a2 != 2) = false := bne_eq_false_iff_eq.mpr c19
           clear c19
           by_cases c20 : a2 = 3
           ·rw [if_pos c20] at H
            have c20b0 : (a2 == 3) = true := beq_iff_eq.mpr c20
            have c20b1 : (a2 != 3) = false := bne_eq_false_iff_eq.mpr c20
            clear c20
            have H' := am H
            clear H
            go_wp2
            go_meet
            case rel => exact ⟨_, (false), (by first | rfl | (simp; done) | (simp [*]; done)), H', ⟨by have := HK1.out; first | omega | exact Nat.le_refl _⟩, ⟨by (with_reducible repeat (first | apply Kd.R_alloc | apply Kd.R_drewN | apply Kd.R_drew)); exact HO_7.out⟩, ⟨by (with_reducible repeat (first | apply Kd.R_alloc | apply Kd.R_drewN | apply Kd.R_drew)); exact HO_8.out⟩, ⟨by repeat (first | (with_reducible first | exact HB.out | apply bal | apply bdn | apply bd1) | exact HB.out)⟩⟩
           ·rw [if_neg c20] at H
            have c20b0 : (a2 == 3) = false := beq_eq_false_iff_ne.mpr c20
            have c20b1 : (a2 != 3) = true := bne_iff_ne.mpr c20
            have H' := am H
            clear H
            go_wp2
            go_meet
            case rel => exact ⟨_, (false), (by first | rfl | (simp; done) | (simp [*]; done)), H', ⟨by have := HK1.out; first | omega | exact Nat.le_refl _⟩, ⟨by (with_reducible repeat (first | apply Kd.R_alloc | apply Kd.R_drewN | apply Kd.R_drew)); exact HO_7.out⟩, ⟨by (with_reducible repeat (first | apply Kd.R_alloc | apply Kd.R_drewN | apply Kd.R_drew)); exact HO_8.out⟩, ⟨by repeat (first | (with_reducible first | exact HB.out | apply bal | apply bdn | apply bd1) | exact HB.out)⟩⟩
          ·rw [if_neg c19] at H
           have c19b0 : (a2 == 2) = false := beq_eq_false_iff_ne.mpr c19
           have c19b1 : (a2 != 2) = true := bne_iff_ne.mpr c19
           by_cases c21 : a2 = 3
           ·rw [if_pos c21] at H
            have c21b0 : (a2 == 3) = true := beq_iff_eq.mpr c21
            have c21b1 : (a2 != 3) = false := bne_eq_false_iff_eq.mpr c21
            clear c21
            have H' := am H
            clear H
            go_wp2
            go_meet
            case rel => exact ⟨_, (false), (by first | rfl | (simp; done) | (simp [*]; done)), H', ⟨by have := HK1.out; first | omega | exact Nat.le_refl _⟩, ⟨by (with_reducible repeat (first | apply Kd.R_alloc | apply Kd.R_drewN | apply Kd.R_drew)); exact HO_7.out⟩, ⟨by (with_reducible repeat (first | apply Kd.R_alloc | apply Kd.R_drewN | apply Kd.R_drew)); exact HO_8.out⟩, ⟨by repeat (first | (with_reducible first | exact HB.out | apply bal | apply bdn | apply bd1) | exact HB.out)⟩⟩
           ·rw [if_neg c21] at H
            have c21b0 : (a2 == 3) = false := beq_eq_false_iff_ne.mpr c21
            have c21b1 : (a2 != 3) = true := bne_iff_ne.mpr c21
            have H' := am H
            clear H
            go_wp2
            go_meet
            case rel => exact ⟨_, (false), (by first | rfl | (simp; done) | (simp [*]; done)), H', ⟨by have := HK1.out; first | omega | exact Nat.le_refl _⟩, ⟨by (with_reducible repeat (first | apply Kd.R_alloc | apply Kd.R_drewN | apply Kd.R_drew)); exact HO_7.out⟩, ⟨by (with_reducible repeat (first | apply Kd.R_alloc | apply Kd.R_drewN | apply Kd.R_drew)); exact HO_8.out⟩, ⟨by repeat (first | (with_reducible first | exact HB.out | apply bal | apply bdn | apply bd1) | exact HB.out)⟩⟩
       ·rw [if_neg c16] at H
        have c16b0 : (a2 == 1) = false := beq_eq_false_iff_ne.mpr c16
        have c16b1 : (a2 != 1) = true := bne_iff_ne.mpr c16
        (first | rw [c16b0] | (simp only [i64_w, i32_w]; rw [c16b0]) | skip)
        by_cases c22 : a2 = 2
        ·rw [if_pos c22] at H
         have c22b0 : (a2 == 2) = true := beq_iff_eq.mpr c22
         have c22b1 : (a2 != 2) = false := bne_eq_false_iff_eq.mpr c22
         clear c22
         by_cases c23 : t217 = true
         ·subst c23
          have H1 : (if t219 = true then (r02_of.j1 k1 l0 l1 a2 x7_1 t213 x9_1 true) else (if a2 = 3 then (r02_of.j1 k1 l0 l1 a2 x7_1 t213 x9_1 (!t219)) else (r02_of.j1 k1 l0 l1 a2 x7_1 t213 x9_1 false))) = some r := by rw [if_pos rfl] at H; exact H
          clear H
          have H := H1
          clear H1
          by_cases c24 : t219 = true
          ·subst c24
           have H1 : (r02_of.j1 k1 l0 l1 a2 x7_1 t213 x9_1 true) = some r := by rw [if_pos rfl] at H; exact H
           clear H
           have H := H1
           clear H1
           have H' := am H
           clear H
           go_wp2
           go_meet
           case rel => exact ⟨_, (true), (by first | rfl | (simp; done) | (simp [*]; done)), H', ⟨by have := HK1.out; first | omega | exact Nat.le_refl _⟩, ⟨by (with_reducible repeat (first | apply Kd.R_alloc | apply Kd.R_drewN | apply Kd.R_drew)); exact HO_7.out⟩, ⟨by (with_reducible repeat (first | apply Kd.R_alloc | apply Kd.R_drewN | apply Kd.R_drew)); exact HO_8.out⟩, ⟨by repeat (first | (with_reducible first | exact HB.out | apply bal | apply bdn | apply bd1) | exact HB.out)⟩⟩
          ·replace c24 := Bool.eq_false_iff.mpr c24
           subst c24
           have H1 : (if a2 = 3 then (r02_of.j1 k1 l0 l1 a2 x7_1 t213 x9_1 (!false)) else (r02_of.j1 k1 l0 l1 a2 x7_1 t213 x9_1 false)) = some r := by rw [if_neg (show ¬ (false = true) by decide)] at H; exact H
           clear H
           have H := H1
           clear H1
           by_cases c25 : a2 = 3
           ·rw [if_pos c25] at H
            have c25b0 : (a2 == 3) = true := beq_iff_eq.mpr c25
            have c25b1 : (a2 != 3) = false := bne_eq_false_iff_eq.mpr c25
            clear c25
            have H' := am H
            clear H
            go_wp2
            go_meet
            case rel => exact ⟨_, (!false), (by first | rfl | (simp; done) | (simp [*]; done)), H', ⟨by have := HK1.out; first | omega | exact Nat.le_refl _⟩, ⟨by (with_reducible repeat (first | apply Kd.R_alloc | apply Kd.R_drewN | apply Kd.R_drew)); exact HO_7.out⟩, ⟨by (with_reducible repeat (first | apply Kd.R_alloc | apply Kd.R_drewN | apply Kd.R_drew)); exact HO_8.out⟩, ⟨by repeat (first | (with_reducible first | exact HB.out | apply bal | apply bdn | apply bd1) | exact HB.out)⟩⟩
           ·rw [if_neg c25] at H
            have c25b0 : (a2 == 3) = false := beq_eq_false_iff_ne.mpr c25
            have c25b1 : (a2 != 3) = true := bne_iff_ne.mpr c25
            have H' := am H
            clear H
            go_wp2
            go_meet
            case rel => exact ⟨_, (false), (by first | rfl | (simp; done) | (simp [*]; done)), H', ⟨by have := HK1.out; first | omega | exact Nat.le_refl _⟩, ⟨by (with_reducible repeat (first | apply Kd.R_alloc | apply Kd.R_drewN | apply Kd.R_drew)); exact HO_7.out⟩, ⟨by (with_reducible repeat (first | apply Kd.R_alloc | apply Kd.R_drewN | apply Kd.R_drew)); exact HO_8.out⟩, ⟨by repeat (first | (with_reducible first | exact HB.out | apply bal | apply bdn | apply bd1) | exact HB.out)⟩⟩
         ·replace c23 := Bool.eq_false_iff.mpr c23
          subst c23
          have H1 : (if a2 = 3 then (r02_of.j1 k1 l0 l1 a2 x7_1 t213 x9_1 false) else (r02_of.j1 k1 l0 l1 a2 x7_1 t213 x9_1 false)) = some r := by rw [if_neg (show ¬ (false = true) by decide)] at H; exact H
          clear H
          have H := H1
          clear H1
          by_cases c26 : a2 = 3
          ·rw [if_pos c26] at H
           have c26b0 : (a2 == 3) = true := beq_iff_eq.mpr c26
           have c26b1 : (a2 != 3) = false := bne_eq_false_iff_eq.mpr c26
           clear c26
           have H' := am H
           clear H
           go_wp2
           go_meet
           case rel => exact ⟨_, (false), (by first | rfl | (simp; done) | (simp [*]; done)), H', ⟨by have := HK1.out; first | omega | exact Nat.le_refl _⟩, ⟨by (with_reducible repeat (first | apply Kd.R_alloc | apply Kd.R_drewN | apply Kd.R_drew)); exact HO_7.out⟩, ⟨by (with_reducible repeat (first | apply Kd.R_alloc | apply Kd.R_drewN | apply Kd.R_drew)); exact HO_8.out⟩, ⟨by repeat (first | (with_reducible first | exact HB.out | apply bal | apply bdn | apply bd1) | exact HB.out)⟩⟩
          ·rw [if_neg c26] at H
           have c26b0 : (a2 == 3) = false := beq_eq_false_iff_ne.mpr c26
           have c26b1 : (a2 != 3) = true := bne_iff_ne.mpr c26
           have H' := am H
           clear H
           go_wp2
           go_meet
           case rel => exact ⟨_, (false), (by first | rfl | (simp; done) | (simp [*]; done)), H', ⟨by have := HK1.out; first | omega | exact Nat.le_refl _⟩, ⟨by (with_reducible repeat (first | apply Kd.R_alloc | apply Kd.R_drewN | apply Kd.R_drew)); exact HO_7.out⟩, ⟨by (with_reducible repeat (first | apply Kd.R_alloc | apply Kd.R_drewN | apply Kd.R_drew)); exact HO_8.out⟩, ⟨by repeat (first | (with_reducible first | exact HB.out | apply bal | apply bdn | apply bd1) | exact HB.out)⟩⟩
        ·rw [if_neg c22] at H
         have c22b0 : (a2 == 2) = false := beq_eq_false_iff_ne.mpr c22
         have c22b1 : (a2 != 2) = true := bne_iff_ne.mpr c22
         by_cases c27 : a2 = 3
         ·rw [if_pos c27] at H
          have c27b0 : (a2 == 3) = true := beq_iff_eq.mpr c27
          have c27b1 : (a2 != 3) = false := bne_eq_false_iff_eq.mpr c27
          clear c27
          by_cases c28 : t217 = true
          ·subst c28
           have H1 : (r02_of.j1 k1 l0 l1 a2 x7_1 t213 x9_1 (!t219)) = some r := by rw [if_pos rfl] at H; exact H
           clear H
           have H := H1
           clear H1
           have H' := am H
           clear H
           go_wp2
           go_meet
           case rel => exact ⟨_, (!t219), (by first | rfl | (simp; done) | (simp [*]; done)), H', ⟨by have := HK1.out; first | omega | exact Nat.le_refl _⟩, ⟨by (with_reducible repeat (first | apply Kd.R_alloc | apply Kd.R_drewN | apply Kd.R_drew)); exact HO_7.out⟩, ⟨by (with_reducible repeat (first | apply Kd.R_alloc | apply Kd.R_drewN | apply Kd.R_drew)); exact HO_8.out⟩, ⟨by repeat (first | (with_reducible first | exact HB.out | apply bal | apply bdn | apply bd1) | exact HB.out)⟩⟩
          ·replace c28 := Bool.eq_false_iff.mpr c28
           subst c28
           have H1 : (r02_of.j1 k1 l0 l1 a2 x7_1 t213 x9_1 false) = some r := by rw [if_neg (show ¬ (false = true) by decide)] at H; exact H
           clear H
           have H := H1
           clear H1
           have H' := am H
           clear H
           go_wp2
           go_meet
           case rel => exact ⟨_, (false), (by first | rfl | (simp; done) | (simp [*]; done)), H', ⟨by have := HK1.out; first | omega | exact Nat.le_refl _⟩, ⟨by (with_reducible repeat (first | apply Kd.R_alloc | apply Kd.R_drewN | apply Kd.R_drew)); exact HO_7.out⟩, ⟨by (with_reducible repeat (first | apply Kd.R_alloc | apply Kd.R_drewN | apply Kd.R_drew)); exact HO_8.out⟩, ⟨by repeat (first | (with_reducible first | exact HB.out | apply bal | apply bdn | apply bd1) | exact HB.out)⟩⟩
         ·rw [if_neg c27] at H
          have c27b0 : (a2 == 3) = false := beq_eq_false_iff_ne.mpr c27
          have c27b1 : (a2 != 3) = true := bne_iff_ne.mpr c27
          have H' := am H
          clear H
          go_wp2
          go_meet
          case rel => exact ⟨_, (false), (by first | rfl | (simp; done) | (simp [*]; done)), H', ⟨by have := HK1.out; first | omega | exact Nat.le_refl _⟩, ⟨by (with_reducible repeat (first | apply Kd.R_alloc | apply Kd.R_drewN | apply Kd.R_drew)); exact HO_7.out⟩, ⟨by (with_reducible repeat (first | apply Kd.R_alloc | apply Kd.R_drewN | apply Kd.R_drew)); exact HO_8.out⟩, ⟨by repeat (first | (with_reducible first | exact HB.out | apply bal | apply bdn | apply bd1) | exact HB.out)⟩⟩
      case rest =>
       clear HC11
       try clear c1
       try clear c2
       try clear p2
       try clear q2
       try clear hx2
       try clear c3
       try clear c5
       try clear c6
       try clear c6b0
       try clear p6
       try clear c7
       try clear c7b0
       try clear c8
       try clear c8b0
       try clear c16
       try clear c16b0
       try clear c16b1
       try clear c17
       try clear c18
       try clear c19
       try clear c19b0
       try clear c19b1
       try clear c20
       try clear c20b0
       try clear c20b1
       try clear c21
       try clear c21b0
       try clear c21b1
       try clear p21
       try clear q21
       try clear hx21
       try clear c22
       try clear c22b0
       try clear c22b1
       try clear c23
       try clear c24
       try clear c25
       try clear c25b0
       try clear c25b1
       try clear c26
       try clear c26b0
       try clear c26b1
       try clear c27
       try clear c27b0
       try clear c27b1
       try clear c28
       try clear hx216_0
       try clear hx218_0
       try clear p2
       try clear p216
       try clear p218
       try clear q216
       try clear q218
       obtain ⟨kq, x12_10, rfl, HA, HJ10, HO_7, HO_8, HB⟩ := hcut
       cases kq with
       | zero => exact absurd HA.out (by simp [r02_of.j1])
       | succ kj10 =>
        have H := HA.out
        clear HA
        simp only [r02_of.j1] at H
        by_cases c29 : x12_10 = true
        ·subst c29
         have H1 : (if (wrap64 ((x7_1.length : Int) - 1)) ≥ 0 then (if 0 ≤ (wrap64 ((x7_1.length : Int) - 1)) then (if (wrap64 ((x7_1.length : Int) - 1)) < (x7_1.length : Int) then (if 0 ≤ x9_1 then (if x9_1 < (t213.length : Int) then (if ((rd_T42 x7_1 (wrap64 ((x7_1.length : Int) - 1))).f1) = (rd t213 x9_1) then (if 0 ≤ (wrap64 (x9_1 + 1)) then (if (wrap64 (x9_1 + 1)) < (t213.length : Int) then (r02_of.l0 kj10 l0 l1 a2 (x7_1.set ((wrap64 ((x7_1.length : Int) - 1)) : Int).toNat (⟨(rd_T42 x7_1 (wrap64 ((x7_1.length : Int) - 1))).f0, rd t213 (wrap64 (x9_1 + 1))⟩ : S42)) t213 (wrap64 (x9_1 + 1))) else (none)) else (none)) else (if 0 ≤ (wrap64 (x9_1 + 1)) then (if (wrap64 (x9_1 + 1)) < (t213.length : Int) then (if x7_1.length < 8796093022208 then (r02_of.l0 kj10 l0 l1 a2 (x7_1 ++ [(⟨rd t213 x9_1, rd t213 (wrap64 (x9_1 + 1))⟩ : S42)]) t213 (wrap64 (x9_1 + 1))) else (none)) else (none)) else (none))) else (none)) else (none)) else (none)) else (none)) else (if 0 ≤ x9_1 then (if x9_1 < (t213.length : Int) then (if 0 ≤ (wrap64 (x9_1 + 1)) then (if (wrap64 (x9_1 + 1)) < (t213.length : Int) then (if x7_1.length < 8796093022208 then (r02_of.l0 kj10 l0 l1 a2 (x7_1 ++ [(⟨rd t213 x9_1, rd t213 (wrap64 (x9_1 + 1))⟩ : S42)]) t213 (wrap64 (x9_1 + 1))) else (none)) else (none)) else (none)) else (none)) else (none))) = some r := by rw [if_pos rfl] at H; exact H
         clear H
         have H := H1
         clear H1
         by_cases c30 : (wrap64 ((x7_1.length : Int) - 1)) ≥ 0
         ·rw [if_pos c30] at H
          have c30b0 : decide (0 ≤ (wrap64 ((x7_1.length : Int) - 1))) = true := decide_eq_true c30
          clear c30
          obtain ⟨ji31, hji31⟩ : ∃ j_ : Int, (wrap64 ((x7_1.length : Int) - 1)) = j_ := ⟨_, rfl⟩
          replace H : (if 0 ≤ (ji31) then (if (ji31) < (x7_1.length : Int) then (if 0 ≤ x9_1 then (if x9_1 < (t213.length : Int) then (if ((rd_T42 x7_1 (ji31)).f1) = (rd t213 x9_1) then (if 0 ≤ (wrap64 (x9_1 + 1)) then (if (wrap64 (x9_1 + 1)) < (t213.length : Int) then (r02_of.l0 kj10 l0 l1 a2 (x7_1.set ((ji31) : Int).toNat (⟨(rd_T42 x7_1 (ji31)).f0, rd t213 (wrap64 (x9_1 + 1))⟩ : S42)) t213 (wrap64 (x9_1 + 1))) else (none)) else (none)) else (if 0 ≤ (wrap64 (x9_1 + 1)) then (if (wrap64 (x9_1 + 1)) < (t213.length : Int) then (if x7_1.length < 8796093022208 then (r02_of.l0 kj10 l0 l1 a2 (x7_1 ++ [(⟨rd t213 x9_1, rd t213 (wrap64 (x9_1 + 1))⟩ : S42)]) t213 (wrap64 (x9_1 + 1))) else (none)) else (none)) else (none))) else (none)) else (none)) else (none)) else (none)) = some r := by first | (rw [hji31] at H; exact H) | (simp only [hji31] at H ⊢; exact H)
          (try rw [hji31] at c30b0)
          have hji31w : (IntKind.i64.wrap ((x7_1.length : Int) - 1)) = ji31 := (i64_w _).trans hji31
          by_cases c32 : 0 ≤ (ji31)
          ·rw [if_pos c32] at H
           have c32b0 : decide (0 ≤ (ji31)) = true := decide_eq_true c32
           clear c32
           by_cases c33 : (ji31) < (x7_1.length : Int)
           ·rw [if_pos c33] at H
            have c33b0 : decide ((ji31) < (x7_1.length : Int)) = true := decide_eq_true c33
            clear c33
            by_cases c34 : 0 ≤ x9_1
            ·rw [if_pos c34] at H
             have c34b0 : decide (0 ≤ x9_1) = true := decide_eq_true c34
             clear c34
             by_cases c35 : x9_1 < (t213.length : Int)
             ·rw [if_pos c35] at H
              have c35b0 : decide (x9_1 < (t213.length : Int)) = true := decide_eq_true c35
              clear c35
              by_cases c36 : ((rd_T42 x7_1 (ji31)).f1) = (rd t213 x9_1)
              ·rw [if_pos c36] at H
               have c36b0 : (((rd_T42 x7_1 (ji31)).f1) == (rd t213 x9_1)) = true := beq_iff_eq.mpr c36
               have c36b1 : (((rd_T42 x7_1 (ji31)).f1) != (rd t213 x9_1)) = false := bne_eq_false_iff_eq.mpr c36
               clear c36
               obtain ⟨ji37, hji37⟩ : ∃ j_ : Int, (wrap64 (x9_1 + 1)) = j_ := ⟨_, rfl⟩
               replace H : (if 0 ≤ (ji37) then (if (ji37) < (t213.length : Int) then (r02_of.l0 kj10 l0 l1 a2 (x7_1.set ((ji31) : Int).toNat (⟨(rd_T42 x7_1 (ji31)).f0, rd t213 (ji37)⟩ : S42)) t213 ji37) else (none)) else (none)) = some r := by first | (rw [hji37] at H; exact H) | (simp only [hji37] at H ⊢; exact H)
               (try rw [hji37] at c6b0)
               have hji37w : (IntKind.i64.wrap (x9_1 + 1)) = ji37 := (i64_w _).trans hji37
               by_cases c38 : 0 ≤ (ji37)
               ·rw [if_pos c38] at H
                have c38b0 : decide (0 ≤ (ji37)) = true := decide_eq_true c38
                clear c38
                by_cases c39 : (ji37) < (t213.length : Int)
                ·rw [if_pos c39] at H
                 have c39b0 : decide ((ji37) < (t213.length : Int)) = true := decide_eq_true c39
                 clear c39
                 obtain ⟨y223, hy223⟩ : ∃ y_ : List (S42), y_ = (x7_1.set ((ji31) : Int).toNat (⟨(rd_T42 x7_1 (ji31)).f0, rd t213 (ji37)⟩ : S42)) := ⟨_, rfl⟩
                 replace H : (r02_of.l0 kj10 l0 l1 a2 y223 t213 ji37) = some r := by first | (rw [hy223]; with_reducible exact H) | (have H2_ := (Option.bind_some _ _).symm.trans H; rw [hy223]; with_reducible exact H2_) | (have H2_ := (Option.bind_some _ _).symm.trans H; with_reducible exact H2_) | with_reducible exact H | (rw [hy223]; exact H) | exact H
                 have Ny223 := am hy223
                 clear hy223
                 have H' := am H
                 clear H
                 obtain ⟨Ao41, co41, eo41⟩ := Kd.R_slice HO_7.out
                 subst eo41
                 try go_wp2
                 have n0_ := am (Kd.R_drew HO_7.out)
                 have n1_ := am (Kd.R_drew HO_8.out)
                 have n2_ := am (bd1 HB.out)
                 clear HO_7
                 clear HO_8
                 clear HB
                 have HO_7 := n0_
                 have HO_8 := n1_
                 have HB := n2_
                 clear n0_ n1_ n2_
                 have p220 : 0 ≤ ((ji31) : Int) := of_decide_eq_true (by first | (with_reducible assumption) | assumption)
                 have q220 : (ji31) < (x7_1.length : Int) := of_decide_eq_true (by first | (with_reducible assumption) | assumption)
                 obtain ⟨ad220, e220, hx220_0, hx220_1⟩ := at_T42 (Kd.R_reads' HO_7.out).2.2 (ji31) p220 q220
                 cases e220
                 replace p220 := eq_true p220
                 replace q220 := eq_true q220
                 have p221 : 0 ≤ (x9_1 : Int) := of_decide_eq_true (by first | (with_reducible assumption) | assumption)
                 have q221 : x9_1 < (t213.length : Int) := of_decide_eq_true (by first | (with_reducible assumption) | assumption)
                 obtain ⟨ad221, e221, hx221_0⟩ := Kd.at_int (Kd.R_reads' HO_8.out).2.2 x9_1 p221 q221
                 obtain rfl : ad216 = ad221 := (by injection e221)
                 replace p221 := eq_true p221
                 replace q221 := eq_true q221
                 refine start_ (n := 14) (S := fun w' => w'.cell? (ad220.add (((ji31)).toNat * 2)) = some (.int .i64 ((rd_T42 x7_1 (ji31)).f0)) ∧ w'.cell? ⟨(ad220.add (((ji31)).toNat * 2)).block, (ad220.add (((ji31)).toNat * 2)).off + 1, none⟩ = some (.int .i64 ((rd_T42 x7_1 (ji31)).f1)) ∧ w'.cell? (ad216.add (x9_1).toNat) = some (.int .i64 (rd t213 x9_1))) (ds := []) #[false, false, false, false, false, false, false, false, false, false, false, false, false, false] (by kernel_rfl) rfl rfl ⟨hx220_0, hx220_1, hx221_0⟩ (fun hHeld => ?_); refine with_tabW r02_of.tab10 r02_of.bits10 (fun HT_ HW_ => ?_)
                 generalize wc.drew = w42 at HO_7 HO_8 HB hx220_0 hx220_1 hx221_0 hHeld ⊢
                 refine pure_ (i := 0) (N := some 70) (v := ?_) (a' := ?_) #[true, false, false, false, false, false, false, false, false, false, false, false, false, false] rfl rfl (any_of HT_.out (by kernel_rfl)) (fun _ _ _ h => h) (Or.inl ⟨by rfl, ?_⟩) ?_ ?_
                 rotate_left
                 ·intro w'
                  go_simp
                  with_reducible rfl
                 rotate_left
                 ·simp only [Act.put, sb1, sb2, sb3, i64_w, i32_w]
                  rfl
                 refine pure_ (i := 1) (N := some 71) (v := ?_) (a' := ?_) #[true, true, false, false, false, false, false, false, false, false, false, false, false, false] rfl rfl (any_of HT_.out (by kernel_rfl)) (fun _ _ _ h => h) (Or.inl ⟨by rfl, ?_⟩) ?_ ?_
                 rotate_left
                 ·intro w'
                  go_simp
                  with_reducible rfl
                 rotate_left
                 ·simp only [Act.put, sb1, sb2, sb3, i64_w, i32_w]
                  rfl
                 refine pure_ (i := 2) (N := some 72) (v := ?_) (a' := ?_) #[true, true, true, false, false, false, false, false, false, false, false, false, false, false] rfl rfl (any_of HT_.out (by kernel_rfl)) (fun _ _ _ h => h) (Or.inl ⟨by rfl, ?_⟩) ?_ ?_
                 rotate_left
                 ·intro w'
                  go_simp
                  with_reducible rfl
                 rotate_left
                 ·simp only [Act.put, sb1, sb2, sb3, i64_w, i32_w]
                  rfl
                 refine pure_ (i := 3) (N := some 73) (v := ?_) (a' := ?_) #[true, true, true, true, false, false, false, false, false, false, false, false, false, false] rfl rfl (any_of HT_.out (by kernel_rfl)) (fun _ _ _ h => h) (Or.inl ⟨by rfl, ?_⟩) ?_ ?_
                 rotate_left
                 ·intro w'
                  go_simp
                  with_reducible rfl
                 rotate_left
                 ·simp only [Act.put, sb1, sb2, sb3, i64_w, i32_w]
                  rfl
                 refine pure_ (i := 4) (N := some 74) (v := ?_) (a' := ?_) #[true, true, true, true, true, false, false, false, false, false, false, false, false, false] rfl rfl (any_of HT_.out (by kernel_rfl)) (fun _ _ _ h => h) (Or.inl ⟨by rfl, ?_⟩) ?_ ?_
                 rotate_left
                 ·intro w'
                  go_simp
                  with_reducible rfl
                 rotate_left
                 ·simp only [Act.put, sb1, sb2, sb3, i64_w, i32_w]
                  rfl
                 refine pure_ (i := 5) (N := some 75) (v := ?_) (a' := ?_) #[true, true, true, true, true, true, false, false, false, false, false, false, false, false] rfl rfl (any_of HT_.out (by kernel_rfl)) (fun _ _ _ h => h) (Or.inl ⟨by rfl, ?_⟩) ?_ ?_
                 rotate_left
                 ·intro w'
                  go_simp
                  with_reducible rfl
                 rotate_left
                 ·simp only [Act.put, sb1, sb2, sb3, i64_w, i32_w]
                  rfl
                 refine pure_ (i := 6) (N := some 76) (v := ?_) (a' := ?_) #[true, true, true, true, true, true, true, false, false, false, false, false, false, false] rfl rfl (any_of HT_.out (by kernel_rfl)) (fun _ _ _ h => h) (Or.inl ⟨by rfl, ?_⟩) ?_ ?_
                 rotate_left
                 ·intro w'
                  go_simp
                  with_reducible rfl
                 rotate_left
                 ·simp only [Act.put, sb1, sb2, sb3, i64_w, i32_w]
                  rfl
                 refine pure_ (i := 8) (N := some 78) (v := ?_) (a' := ?_) #[true, true, true, true, true, true, true, false, true, false, false, false, false, false] rfl rfl (any_of HT_.out (by kernel_rfl)) (fun _ _ _ h => h) (Or.inl ⟨by rfl, ?_⟩) ?_ ?_
                 rotate_left
                 ·intro w'
                  go_simp
                  with_reducible rfl
                 rotate_left
                 ·simp only [Act.put, sb1, sb2, sb3, i64_w, i32_w]
                  rfl
                 refine pure_ (i := 9) (N := some 79) (v := ?_) (a' := ?_) #[true, true, true, true, true, true, true, false, true, true, false, false, false, false] rfl rfl (any_of HT_.out (by kernel_rfl)) (fun _ _ _ h => h) (Or.inl ⟨by rfl, ?_⟩) ?_ ?_
                 rotate_left
                 ·intro w'
                  go_simp
                  with_reducible rfl
                 rotate_left
                 ·simp only [Act.put, sb1, sb2, sb3, i64_w, i32_w]
                  rfl
                 refine pure_ (i := 10) (N := some 80) (v := ?_) (a' := ?_) #[true, true, true, true, true, true, true, false, true, true, true, false, false, false] rfl rfl (any_of HT_.out (by kernel_rfl)) (fun _ _ _ h => h) (Or.inl ⟨by rfl, ?_⟩) ?_ ?_
                 rotate_left
                 ·intro w'
                  go_simp
                  with_reducible rfl
                 rotate_left
                 ·simp only [Act.put, sb1, sb2, sb3, i64_w, i32_w]
                  rfl
                 refine take_ (i := 7) (N := some 77) (v := ?_) (a' := ?_) #[true, true, true, true, true, true, true, true, true, true, true, false, false, false] rfl rfl (take_ofW HT_.out HW_.out (by kernel_rfl)) (fun _ _ _ h => h) (Or.inl ⟨by rfl, ?_⟩) hHeld ?_ ?_
                 rotate_left
                 ·rintro w' ⟨s0, s1, s2⟩
                  go_simp
                  with_reducible rfl
                 rotate_left
                 ·simp only [Act.put, sb1, sb2, sb3, i64_w, i32_w]
                  rfl
                 refine take_ (i := 11) (N := some 81) (v := ?_) (a' := ?_) #[true, true, true, true, true, true, true, true, true, true, true, true, false, false] rfl rfl (take_ofW HT_.out HW_.out (by kernel_rfl)) (fun _ _ _ h => h) (Or.inl ⟨by rfl, ?_⟩) hHeld ?_ ?_
                 rotate_left
                 ·rintro w' ⟨s0, s1, s2⟩
                  go_simp
                  with_reducible rfl
                 rotate_left
                 ·simp only [Act.put, sb1, sb2, sb3, i64_w, i32_w]
                  rfl
                 refine pure_ (i := 12) (N := some 82) (v := ?_) (a' := ?_) #[true, true, true, true, true, true, true, true, true, true, true, true, true, false] rfl rfl (any_of HT_.out (by kernel_rfl)) (fun _ _ _ h => h) (Or.inl ⟨by rfl, ?_⟩) ?_ ?_
                 rotate_left
                 ·intro w'
                  go_simp
                  with_reducible rfl
                 rotate_left
                 ·simp only [Act.put, sb1, sb2, sb3, i64_w, i32_w]
                  rfl
                 refine pure_ (i := 13) (N := some 83) (v := ?_) (a' := ?_) #[true, true, true, true, true, true, true, true, true, true, true, true, true, true] rfl rfl (any_of HT_.out (by kernel_rfl)) (fun _ _ _ h => h) (Or.inl ⟨by rfl, ?_⟩) ?_ ?_
                 rotate_left
                 ·intro w'
                  go_simp
                  with_reducible rfl
                 rotate_left
                 ·simp only [Act.put, sb1, sb2, sb3, i64_w, i32_w]
                  rfl
                 refine done_ (done_of HT_.out (by kernel_rfl)) ?_
                 have p222 : 0 ≤ ((ji37) : Int) := of_decide_eq_true (by first | (with_reducible assumption) | assumption)
                 have q222 : (ji37) < (t213.length : Int) := of_decide_eq_true (by first | (with_reducible assumption) | assumption)
                 obtain ⟨ad222, e222, hx222_0⟩ := Kd.at_int (Kd.R_reads' HO_8.out).2.2 (ji37) p222 q222
                 obtain rfl : ad216 = ad222 := (by injection e222)
                 replace p222 := eq_true p222
                 replace q222 := eq_true q222
                 have p40 : 0 ≤ ((ji31) : Int) := of_decide_eq_true (by first | (with_reducible assumption) | assumption)
                 have q40 : ((ji31) : Int) < ((x7_1.length : Int) : Int) := of_decide_eq_true (by first | (with_reducible assumption) | assumption)
                 obtain ⟨go40, co40, eo40, gb40, gl40, cl40, HG40⟩ := Kd.R_form HO_7.out (by omega)
                 (first | cases eo40 | (injection eo40 with ea_ en_ ec_; (first | subst ea_ | (injection ea_ with ea_; subst ea_)); subst ec_; clear en_))
                 have GB40 := am gb40
                 have GG40 := am HG40
                 clear gb40 gl40 HG40
                 (first | simp only [add_plain] at hx220_0 | skip)
                 (first | simp only [add_plain] at hx220_1 | skip)
                 obtain ⟨ce40, hcl40, hM40, hcc40, hfr40⟩ := Kd.R_elem HO_7.out z42 ((ji31) : Int) p40 q40
                 obtain rfl := k42_openM hM40
                 have hx40_0 : w42.cell? ⟨go40, ((ji31) : Int).toNat * 2, none⟩ = some (.int .i64 ((rd_T42 x7_1 (ji31)).f0)) := hcc40 0 _ rfl
                 have hx40_1 : w42.cell? ⟨go40, ((ji31) : Int).toNat * 2 + 1, none⟩ = some (.int .i64 ((rd_T42 x7_1 (ji31)).f1)) := hcc40 1 _ rfl
                 have hf40_0 : w42.frozen? ⟨go40, ((ji31) : Int).toNat * 2, none⟩ = false := hfr40 0
                 have hf40_1 : w42.frozen? ⟨go40, ((ji31) : Int).toNat * 2 + 1, none⟩ = false := hfr40 1
                 clear hcl40 hcc40 hfr40 hM40
                 replace p40 := eq_true p40
                 replace q40 := eq_true q40
                 have HX43 := am (show Kd.R k42 42 w42 w.heap.size (fun _ => True) (.slice (some ⟨go40, 0, none⟩) x7_1.length co41) x7_1 from (by (with_reducible repeat (first | apply Kd.R_alloc | apply Kd.R_drewN | apply Kd.R_drew)); exact HO_7.out))
                 obtain ⟨ce43, hcl43, hM43, hcc43, hfr43⟩ := Kd.R_elem HX43.out z42 ((ji31) : Int) (of_decide_eq_true (by first | (with_reducible assumption) | assumption)) (by have h_ : ((ji31) : Int) < ((x7_1.length : Int) : Int) := of_decide_eq_true (by first | (with_reducible assumption) | assumption); first | exact h_ | (have e_ := (Kd.R_reads' HO_7.out).1; omega) | simpa using h_)
                 obtain rfl := k42_openM hM43
                 have HP43 := Kd.R_seg HX43.out ((ji31) : Int) (of_decide_eq_true (by first | (with_reducible assumption) | assumption)) (by have h_ : ((ji31) : Int) < ((x7_1.length : Int) : Int) := of_decide_eq_true (by first | (with_reducible assumption) | assumption); first | exact h_ | (have e_ := (Kd.R_reads' HO_7.out).1; omega) | simpa using h_) (seg := [.int .i64 (rd t213 (ji37))]) (j := 1) hcl43 hcc43 (show 2 ≤ 2 from by decide) (x' := (⟨(rd_T42 x7_1 (ji31)).f0, rd t213 (ji37)⟩ : S42)) (k42_mkM _ _ _ (⟨(rd_T42 x7_1 (ji31)).f0, rd t213 (ji37)⟩ : S42) ) (fun _ hk => hk)
                 have hx43_1 := hcc43 1 _ rfl
                 (try simp only [show (k42).sz = 2 from rfl, Nat.mul_one, Nat.add_zero] at hx43_1)
                 have hf43_1 := hfr43 1
                 (try simp only [show (k42).sz = 2 from rfl, Nat.mul_one, Nat.add_zero] at hf43_1)
                 clear hcl43 hcc43 hfr43 hM43
                 try go_wp2_with (first | ((with_reducible refine gate_store (t := 2) (p := 92) rfl ?_); refine store_event (t := 2) (p := 92) (v := ?vo_w44) (w1 := (w42.setCell ⟨go40, ((ji31) : Int).toNat * 2 + 1, none⟩ (.int .i64 (rd t213 (ji37))))) ?hg ?ho ?hn ?hr ?_; (case ho => rfl); (case hg => rfl); (case hn => rfl); (case hr => first | (go_simp; done) | (go_simp; rfl)); intro w44 hw; have hg : w42.grownBy w44 (some go40) := (by rw [hw]; exact HP43.2); have hp_ : Kd.R k42 42 w44 w.heap.size (fun _ => True) (.slice (some ⟨go40, 0, none⟩) x7_1.length co41) y223 := (by rw [hw, Ny223.out]; exact HP43.1); clear HP43; have n0_ := am (hp_); have n1_ := am (Kd.R_over' (v := (.slice (some ⟨go40, 0, none⟩) x7_1.length co41)) (by (with_reducible repeat (first | apply Kd.R_alloc | apply Kd.R_drewN | apply Kd.R_drew)); exact HO_8.out) (Kd.R_typed HO_7.out) (by decide) hg); have n2_ := am ((by rw [hw]; exact bst (HB.out) GB40.out : Below w.heap.size w w44)); clear HO_7; clear HO_8; clear HB; have HO_7 := n0_; have HO_8 := n1_; have HB := n2_; clear n0_ n1_ n2_; clear hg hw hp_))
                 go_roundg kj10
                 case measure => have := HK1.out; have := HJ10.out; omega
                 case rel => exact ⟨(y223), (ji37), (by first | rfl | (simp; done) | (simp only [← hji37] <;> (first | rfl | simp)) | (simp [*]; done)), H', ⟨by have := HK1.out; have := HJ10.out; omega⟩, ⟨by (with_reducible repeat (first | apply Kd.R_alloc | apply Kd.R_drewN | apply Kd.R_drew)); exact HO_7.out⟩, ⟨by (with_reducible repeat (first | apply Kd.R_alloc | apply Kd.R_drewN | apply Kd.R_drew)); exact HO_8.out⟩, ⟨by repeat (first | (with_reducible first | exact HB.out | apply bal | apply bdn | apply bd1) | exact HB.out)⟩⟩
                ·rw [if_neg c39] at H
                 exact absurd H (by simp)
               ·rw [if_neg c38] at H
                exact absurd H (by simp)
              ·rw [if_neg c36] at H
               have c36b0 : (((rd_T42 x7_1 (ji31)).f1) == (rd t213 x9_1)) = false := beq_eq_false_iff_ne.mpr c36
               have c36b1 : (((rd_T42 x7_1 (ji31)).f1) != (rd t213 x9_1)) = true := bne_iff_ne.mpr c36
               obtain ⟨ji45, hji45⟩ : ∃ j_ : Int, (wrap64 (x9_1 + 1)) = j_ := ⟨_, rfl⟩
               replace H : (if 0 ≤ (ji45) then (if (ji45) < (t213.length : Int) then (if x7_1.length < 8796093022208 then (r02_of.l0 kj10 l0 l1 a2 (x7_1 ++ [(⟨rd t213 x9_1, rd t213 (ji45)⟩ : S42)]) t213 ji45) else (none)) else (none)) else (none)) = some r := by first | (rw [hji45] at H; exact H) | (simp only [hji45] at H ⊢; exact H)
               (try rw [hji45] at c6b0)
               have hji45w : (IntKind.i64.wrap (x9_1 + 1)) = ji45 := (i64_w _).trans hji45
               by_cases c46 : 0 ≤ (ji45)
               ·rw [if_pos c46] at H
                have c46b0 : decide (0 ≤ (ji45)) = true := decide_eq_true c46
                clear c46
                by_cases c47 : (ji45) < (t213.length : Int)
                ·rw [if_pos c47] at H
                 have c47b0 : decide ((ji45) < (t213.length : Int)) = true := decide_eq_true c47
                 clear c47
                 by_cases c48 : x7_1.length < 8796093022208
                 ·rw [if_pos c48] at H
                  have LMc48 := am c48
                  clear c48
                  obtain ⟨y226, hy226⟩ : ∃ y_ : List (S42), y_ = (x7_1 ++ [(⟨rd t213 x9_1, rd t213 (ji45)⟩ : S42)]) := ⟨_, rfl⟩
                  replace H : (r02_of.l0 kj10 l0 l1 a2 y226 t213 ji45) = some r := by first | (rw [hy226]; with_reducible exact H) | (have H2_ := (Option.bind_some _ _).symm.trans H; rw [hy226]; with_reducible exact H2_) | (have H2_ := (Option.bind_some _ _).symm.trans H; with_reducible exact H2_) | with_reducible exact H | (rw [hy226]; exact H) | exact H
                  have Ny226 := am hy226
                  clear hy226
                  have H' := am H
                  clear H
                  obtain ⟨Ao49, co49, eo49⟩ := Kd.R_slice HO_7.out
                  subst eo49
                  try go_wp2
                  have n0_ := am (Kd.R_drew HO_7.out)
                  have n1_ := am (Kd.R_drew HO_8.out)
                  have n2_ := am (bd1 HB.out)
                  clear HO_7
                  clear HO_8
                  clear HB
                  have HO_7 := n0_
                  have HO_8 := n1_
                  have HB := n2_
                  clear n0_ n1_ n2_
                  have p220 : 0 ≤ ((ji31) : Int) := of_decide_eq_true (by first | (with_reducible assumption) | assumption)
                  have q220 : (ji31) < (x7_1.length : Int) := of_decide_eq_true (by first | (with_reducible assumption) | assumption)
                  obtain ⟨ad220, e220, hx220_0, hx220_1⟩ := at_T42 (Kd.R_reads' HO_7.out).2.2 (ji31) p220 q220
                  cases e220
                  replace p220 := eq_true p220
                  replace q220 := eq_true q220
                  have p221 : 0 ≤ (x9_1 : Int) := of_decide_eq_true (by first | (with_reducible assumption) | assumption)
                  have q221 : x9_1 < (t213.length : Int) := of_decide_eq_true (by first | (with_reducible assumption) | assumption)
                  obtain ⟨ad221, e221, hx221_0⟩ := Kd.at_int (Kd.R_reads' HO_8.out).2.2 x9_1 p221 q221
                  obtain rfl : ad216 = ad221 := (by injection e221)
                  replace p221 := eq_true p221
                  replace q221 := eq_true q221
                  refine start_ (n := 14) (S := fun w' => w'.cell? (ad220.add (((ji31)).toNat * 2)) = some (.int .i64 ((rd_T42 x7_1 (ji31)).f0)) ∧ w'.cell? ⟨(ad220.add (((ji31)).toNat * 2)).block, (ad220.add (((ji31)).toNat * 2)).off + 1, none⟩ = some (.int .i64 ((rd_T42 x7_1 (ji31)).f1)) ∧ w'.cell? (ad216.add (x9_1).toNat) = some (.int .i64 (rd t213 x9_1))) (ds := []) #[false, false, false, false, false, false, false, false, false, false, false, false, false, false] (by kernel_rfl) rfl rfl ⟨hx220_0, hx220_1, hx221_0⟩ (fun hHeld => ?_); refine with_tabW r02_of.tab10 r02_of.bits10 (fun HT_ HW_ => ?_)
                  generalize wc.drew = w50 at HO_7 HO_8 HB hx220_0 hx220_1 hx221_0 hHeld ⊢
                  refine pure_ (i := 0) (N := some 70) (v := ?_) (a' := ?_) #[true, false, false, false, false, false, false, false, false, false, false, false, false, false] rfl rfl (any_of HT_.out (by kernel_rfl)) (fun _ _ _ h => h) (Or.inl ⟨by rfl, ?_⟩) ?_ ?_
                  rotate_left
                  ·intro w'
                   go_simp
                   with_reducible rfl
                  rotate_left
                  ·simp only [Act.put, sb1, sb2, sb3, i64_w, i32_w]
                   rfl
                  refine pure_ (i := 1) (N := some 71) (v := ?_) (a' := ?_) #[true, true, false, false, false, false, false, false, false, false, false, false, false, false] rfl rfl (any_of HT_.out (by kernel_rfl)) (fun _ _ _ h => h) (Or.inl ⟨by rfl, ?_⟩) ?_ ?_
                  rotate_left
                  ·intro w'
                   go_simp
                   with_reducible rfl
                  rotate_left
                  ·simp only [Act.put, sb1, sb2, sb3, i64_w, i32_w]
                   rfl
                  refine pure_ (i := 2) (N := some 72) (v := ?_) (a' := ?_) #[true, true, true, false, false, false, false, false, false, false, false, false, false, false] rfl rfl (any_of HT_.out (by kernel_rfl)) (fun _ _ _ h => h) (Or.inl ⟨by rfl, ?_⟩) ?_ ?_
                  rotate_left
                  ·intro w'
                   go_simp
                   with_reducible rfl
                  rotate_left
                  ·simp only [Act.put, sb1, sb2, sb3, i64_w, i32_w]
                   rfl
                  refine pure_ (i := 3) (N := some 73) (v := ?_) (a' := ?_) #[true, true, true, true, false, false, false, false, false, false, false, false, false, false] rfl rfl (any_of HT_.out (by kernel_rfl)) (fun _ _ _ h => h) (Or.inl ⟨by rfl, ?_⟩) ?_ ?_
                  rotate_left
                  ·intro w'
                   go_simp
                   with_reducible rfl
                  rotate_left
                  ·simp only [Act.put, sb1, sb2, sb3, i64_w, i32_w]
                   rfl
                  refine pure_ (i := 4) (N := some 74) (v := ?_) (a' := ?_) #[true, true, true, true, true, false, false, false, false, false, false, false, false, false] rfl rfl (any_of HT_.out (by kernel_rfl)) (fun _ _ _ h => h) (Or.inl ⟨by rfl, ?_⟩) ?_ ?_
                  rotate_left
                  ·intro w'
                   go_simp
                   with_reducible rfl
                  rotate_left
                  ·simp only [Act.put, sb1, sb2, sb3, i64_w, i32_w]
                   rfl
                  refine pure_ (i := 5) (N := some 75) (v := ?_) (a' := ?_) #[true, true, true, true, true, true, false, false, false, false, false, false, false, false] rfl rfl (any_of HT_.out (by kernel_rfl)) (fun _ _ _ h => h) (Or.inl ⟨by rfl, ?_⟩) ?_ ?_
                  rotate_left
                  ·intro w'
                   go_simp
                   with_reducible rfl
                  rotate_left
                  ·simp only [Act.put, sb1, sb2, sb3, i64_w, i32_w]
                   rfl
                  refine pure_ (i := 6) (N := some 76) (v := ?_) (a' := ?_) #[true, true, true, true, true, true, true, false, false, false, false, false, false, false] rfl rfl (any_of HT_.out (by kernel_rfl)) (fun _ _ _ h => h) (Or.inl ⟨by rfl, ?_⟩) ?_ ?_
                  rotate_left
                  ·intro w'
                   go_simp
                   with_reducible rfl
                  rotate_left
                  ·simp only [Act.put, sb1, sb2, sb3, i64_w, i32_w]
                   rfl
                  refine pure_ (i := 8) (N := some 78) (v := ?_) (a' := ?_) #[true, true, true, true, true, true, true, false, true, false, false, false, false, false] rfl rfl (any_of HT_.out (by kernel_rfl)) (fun _ _ _ h => h) (Or.inl ⟨by rfl, ?_⟩) ?_ ?_
                  rotate_left
                  ·intro w'
                   go_simp
                   with_reducible rfl
                  rotate_left
                  ·simp only [Act.put, sb1, sb2, sb3, i64_w, i32_w]
                   rfl
                  refine pure_ (i := 9) (N := some 79) (v := ?_) (a' := ?_) #[true, true, true, true, true, true, true, false, true, true, false, false, false, false] rfl rfl (any_of HT_.out (by kernel_rfl)) (fun _ _ _ h => h) (Or.inl ⟨by rfl, ?_⟩) ?_ ?_
                  rotate_left
                  ·intro w'
                   go_simp
                   with_reducible rfl
                  rotate_left
                  ·simp only [Act.put, sb1, sb2, sb3, i64_w, i32_w]
                   rfl
                  refine pure_ (i := 10) (N := some 80) (v := ?_) (a' := ?_) #[true, true, true, true, true, true, true, false, true, true, true, false, false, false] rfl rfl (any_of HT_.out (by kernel_rfl)) (fun _ _ _ h => h) (Or.inl ⟨by rfl, ?_⟩) ?_ ?_
                  rotate_left
                  ·intro w'
                   go_simp
                   with_reducible rfl
                  rotate_left
                  ·simp only [Act.put, sb1, sb2, sb3, i64_w, i32_w]
                   rfl
                  refine take_ (i := 7) (N := some 77) (v := ?_) (a' := ?_) #[true, true, true, true, true, true, true, true, true, true, true, false, false, false] rfl rfl (take_ofW HT_.out HW_.out (by kernel_rfl)) (fun _ _ _ h => h) (Or.inl ⟨by rfl, ?_⟩) hHeld ?_ ?_
                  rotate_left
                  ·rintro w' ⟨s0, s1, s2⟩
                   go_simp
                   with_reducible rfl
                  rotate_left
                  ·simp only [Act.put, sb1, sb2, sb3, i64_w, i32_w]
                   rfl
                  refine take_ (i := 11) (N := some 81) (v := ?_) (a' := ?_) #[true, true, true, true, true, true, true, true, true, true, true, true, false, false] rfl rfl (take_ofW HT_.out HW_.out (by kernel_rfl)) (fun _ _ _ h => h) (Or.inl ⟨by rfl, ?_⟩) hHeld ?_ ?_
                  rotate_left
                  ·rintro w' ⟨s0, s1, s2⟩
                   go_simp
                   with_reducible rfl
                  rotate_left
                  ·simp only [Act.put, sb1, sb2, sb3, i64_w, i32_w]
                   rfl
                  refine pure_ (i := 12) (N := some 82) (v := ?_) (a' := ?_) #[true, true, true, true, true, true, true, true, true, true, true, true, true, false] rfl rfl (any_of HT_.out (by kernel_rfl)) (fun _ _ _ h => h) (Or.inl ⟨by rfl, ?_⟩) ?_ ?_
                  rotate_left
                  ·intro w'
                   go_simp
                   with_reducible rfl
                  rotate_left
                  ·simp only [Act.put, sb1, sb2, sb3, i64_w, i32_w]
                   rfl
                  refine pure_ (i := 13) (N := some 83) (v := ?_) (a' := ?_) #[true, true, true, true, true, true, true, true, true, true, true, true, true, true] rfl rfl (any_of HT_.out (by kernel_rfl)) (fun _ _ _ h => h) (Or.inl ⟨by rfl, ?_⟩) ?_ ?_
                  rotate_left
                  ·intro w'
                   go_simp
                   with_reducible rfl
                  rotate_left
                  ·simp only [Act.put, sb1, sb2, sb3, i64_w, i32_w]
                   rfl
                  refine done_ (done_of HT_.out (by kernel_rfl)) ?_
                  try go_wp2
                  have n0_ := am (Kd.R_drew HO_7.out)
                  have n1_ := am (Kd.R_drew HO_8.out)
                  have n2_ := am (bd1 HB.out)
                  clear HO_7
                  clear HO_8
                  clear HB
                  have HO_7 := n0_
                  have HO_8 := n1_
                  have HB := n2_
                  clear n0_ n1_ n2_
                  have p224 : 0 ≤ (x9_1 : Int) := of_decide_eq_true (by first | (with_reducible assumption) | assumption)
                  have q224 : x9_1 < (t213.length : Int) := of_decide_eq_true (by first | (with_reducible assumption) | assumption)
                  obtain ⟨ad224, e224, hx224_0⟩ := Kd.at_int (Kd.R_reads' HO_8.out).2.2 x9_1 p224 q224
                  obtain rfl : ad216 = ad224 := (by injection e224)
                  replace p224 := eq_true p224
                  replace q224 := eq_true q224
                  have p225 : 0 ≤ ((ji45) : Int) := of_decide_eq_true (by first | (with_reducible assumption) | assumption)
                  have q225 : (ji45) < (t213.length : Int) := of_decide_eq_true (by first | (with_reducible assumption) | assumption)
                  obtain ⟨ad225, e225, hx225_0⟩ := Kd.at_int (Kd.R_reads' HO_8.out).2.2 (ji45) p225 q225
                  obtain rfl : ad216 = ad225 := (by injection e225)
                  replace p225 := eq_true p225
                  replace q225 := eq_true q225
                  refine start_ (n := 14) (S := fun w' => w'.cell? (ad216.add (x9_1).toNat) = some (.int .i64 (rd t213 x9_1)) ∧ w'.cell? (ad216.add ((ji45)).toNat) = some (.int .i64 (rd t213 (ji45)))) (ds := [11, 12]) #[false, false, false, false, false, false, false, false, false, false, false, false, false, false] (by kernel_rfl) rfl rfl ⟨hx224_0, hx225_0⟩ (fun hHeld => ?_); refine with_tabW r02_of.tab12 r02_of.bits12 (fun HT_ HW_ => ?_)
                  generalize w50.drew = w51 at HO_7 HO_8 HB hx224_0 hx225_0 hHeld ⊢
                  refine pure_ (i := 0) (N := some 93) (v := ?_) (a' := ?_) #[true, false, false, false, false, false, false, false, false, false, false, false, false, false] rfl rfl (any_of HT_.out (by kernel_rfl)) (fun _ _ _ h => h) (Or.inl ⟨by rfl, ?_⟩) ?_ ?_
                  rotate_left
                  ·intro w'
                   go_simp
                   with_reducible rfl
                  rotate_left
                  ·simp only [Act.put, sb1, sb2, sb3, i64_w, i32_w]
                   rfl
                  refine pure_ (i := 1) (N := some 94) (v := ?_) (a' := ?_) #[true, true, false, false, false, false, false, false, false, false, false, false, false, false] rfl rfl (any_of HT_.out (by kernel_rfl)) (fun _ _ _ h => h) (Or.inl ⟨by rfl, ?_⟩) ?_ ?_
                  rotate_left
                  ·intro w'
                   go_simp
                   with_reducible rfl
                  rotate_left
                  ·simp only [Act.put, sb1, sb2, sb3, i64_w, i32_w]
                   rfl
                  refine pure_ (i := 2) (N := some 95) (v := ?_) (a' := ?_) #[true, true, true, false, false, false, false, false, false, false, false, false, false, false] rfl rfl (any_of HT_.out (by kernel_rfl)) (fun _ _ _ h => h) (Or.inl ⟨by rfl, ?_⟩) ?_ ?_
                  rotate_left
                  ·intro w'
                   go_simp
                   with_reducible rfl
                  rotate_left
                  ·simp only [Act.put, sb1, sb2, sb3, i64_w, i32_w]
                   rfl
                  refine pure_ (i := 3) (N := some 96) (v := ?_) (a' := ?_) #[true, true, true, true, false, false, false, false, false, false, false, false, false, false] rfl rfl (any_of HT_.out (by kernel_rfl)) (fun _ _ _ h => h) (Or.inl ⟨by rfl, ?_⟩) ?_ ?_
                  rotate_left
                  ·intro w'
                   go_simp
                   with_reducible rfl
                  rotate_left
                  ·simp only [Act.put, sb1, sb2, sb3, i64_w, i32_w]
                   rfl
                  refine pure_ (i := 5) (N := some 98) (v := ?_) (a' := ?_) #[true, true, true, true, false, true, false, false, false, false, false, false, false, false] rfl rfl (any_of HT_.out (by kernel_rfl)) (fun _ _ _ h => h) (Or.inl ⟨by rfl, ?_⟩) ?_ ?_
                  rotate_left
                  ·intro w'
                   go_simp
                   with_reducible rfl
                  rotate_left
                  ·simp only [Act.put, sb1, sb2, sb3, i64_w, i32_w]
                   rfl
                  refine pure_ (i := 6) (N := some 99) (v := ?_) (a' := ?_) #[true, true, true, true, false, true, true, false, false, false, false, false, false, false] rfl rfl (any_of HT_.out (by kernel_rfl)) (fun _ _ _ h => h) (Or.inl ⟨by rfl, ?_⟩) ?_ ?_
                  rotate_left
                  ·intro w'
                   go_simp
                   with_reducible rfl
                  rotate_left
                  ·simp only [Act.put, sb1, sb2, sb3, i64_w, i32_w]
                   rfl
                  refine pure_ (i := 7) (N := some 100) (v := ?_) (a' := ?_) #[true, true, true, true, false, true, true, true, false, false, false, false, false, false] rfl rfl (any_of HT_.out (by kernel_rfl)) (fun _ _ _ h => h) (Or.inl ⟨by rfl, ?_⟩) ?_ ?_
                  rotate_left
                  ·intro w'
                   go_simp
                   with_reducible rfl
                  rotate_left
                  ·simp only [Act.put, sb1, sb2, sb3, i64_w, i32_w]
                   rfl
                  refine pure_ (i := 8) (N := some 101) (v := ?_) (a' := ?_) #[true, true, true, true, false, true, true, true, true, false, false, false, false, false] rfl rfl (any_of HT_.out (by kernel_rfl)) (fun _ _ _ h => h) (Or.inl ⟨by rfl, ?_⟩) ?_ ?_
                  rotate_left
                  ·intro w'
                   go_simp
                   with_reducible rfl
                  rotate_left
                  ·simp only [Act.put, sb1, sb2, sb3, i64_w, i32_w]
                   rfl
                  refine take_ (i := 4) (N := some 97) (v := ?_) (a' := ?_) #[true, true, true, true, true, true, true, true, true, false, false, false, false, false] rfl rfl (take_ofW HT_.out HW_.out (by kernel_rfl)) (fun _ _ _ h => h) (Or.inl ⟨by rfl, ?_⟩) hHeld ?_ ?_
                  rotate_left
                  ·rintro w' ⟨s0, s1⟩
                   go_simp
                   with_reducible rfl
                  rotate_left
                  ·simp only [Act.put, sb1, sb2, sb3, i64_w, i32_w]
                   rfl
                  refine take_ (i := 9) (N := some 102) (v := ?_) (a' := ?_) #[true, true, true, true, true, true, true, true, true, true, false, false, false, false] rfl rfl (take_ofW HT_.out HW_.out (by kernel_rfl)) (fun _ _ _ h => h) (Or.inl ⟨by rfl, ?_⟩) hHeld ?_ ?_
                  rotate_left
                  ·rintro w' ⟨s0, s1⟩
                   go_simp
                   with_reducible rfl
                  rotate_left
                  ·simp only [Act.put, sb1, sb2, sb3, i64_w, i32_w]
                   rfl
                  refine pure_ (i := 10) (N := some 103) (v := ?_) (a' := ?_) #[true, true, true, true, true, true, true, true, true, true, true, false, false, false] rfl rfl (any_of HT_.out (by kernel_rfl)) (fun _ _ _ h => h) (Or.inl ⟨by rfl, ?_⟩) ?_ ?_
                  rotate_left
                  ·intro w'
                   go_simp
                   with_reducible rfl
                  rotate_left
                  ·simp only [Act.put, sb1, sb2, sb3, i64_w, i32_w]
                   rfl
                  refine last_ (i := 11) (N := some 104) #[true, true, true, true, true, true, true, true, true, true, true, true, false, false] rfl rfl (one_of HT_.out (by kernel_rfl)) (by decide) (fun K hK => ?_)
                  refine value_ (w1 := ?_) (v := ?_) (by rfl) rfl ?_ ?_
                  rotate_left 2
                  ·go_simp
                   constructor
                   ·rfl
                   ·rfl
                  refine hK.out _ _ ?_
                  clear hK K
                  refine norm_ (a' := ?_) ?_ ?_
                  rotate_left
                  ·show Act.put _ (some 104) _ = _
                   simp only [Act.put, sb1, sb2, sb3, i64_w, i32_w]
                   rfl
                  refine last_ (i := 12) (N := some 105) #[true, true, true, true, true, true, true, true, true, true, true, true, true, false] rfl rfl (one_of HT_.out (by kernel_rfl)) (by decide) (fun K hK => ?_)
                  refine Kd.R_append_step k42 (w0 := w) w.heap.size (by rfl) (.tmp 93) (.tmp 104) 22 42 (.agg #[(.int .i64 0), (.int .i64 0)]) 16 rfl Tryd.underlying22 info42 rfl (by decide) (by omega) (.slice (some ad220) x7_1.length co49) x7_1 (⟨rd t213 x9_1, rd t213 (ji45)⟩ : S42) [.int .i64 (rd t213 x9_1), .int .i64 (rd t213 (ji45))] (fun _ => True) (fun _ => False) rfl rfl ?aP (fun _ hk => hk.elim) ?aF ?aO ?aB ?aS ?aL ?_
                  (case aP => exact k42_mkM _ _ _ (⟨rd t213 x9_1, rd t213 (ji45)⟩ : S42))
                  (case aB => exact (by repeat (first | (with_reducible first | exact HB.out | apply bal | apply bdn | apply bd1) | exact HB.out)))
                  (case aF => exact (fun _ _ => trivial))
                  (case aO => exact (by (with_reducible repeat (first | apply Kd.R_alloc | apply Kd.R_drewN | apply Kd.R_drew)); exact HO_7.out))
                  (case aS => exact (below_size (by repeat (first | (with_reducible first | exact HB.out | apply bal | apply bdn | apply bd1) | exact HB.out))))
                  (case aL => have := LMc48.out; omega)
                  intro v227 w52 ho hb hg hat
                  rw [← Ny226.out] at ho
                  have n0_ := am (Kd.R_over' (by (with_reducible repeat (first | apply Kd.R_alloc | apply Kd.R_drewN | apply Kd.R_drew)); exact HO_8.out) (Kd.R_typed (by (with_reducible repeat (first | apply Kd.R_alloc | apply Kd.R_drewN | apply Kd.R_drew)); exact HO_7.out)) (by decide) hg)
                  have n1_ := am (hb)
                  have n2_ := am (ho)
                  clear HO_8
                  clear HB
                  clear HO_7
                  have HO_8 := n0_
                  have HB := n1_
                  have HO228 := n2_
                  clear n0_ n1_ n2_
                  clear ho hb hg hat
                  refine hK.out _ _ ?_
                  clear hK K
                  refine norm_ (a' := ?_) ?_ ?_
                  rotate_left
                  ·show Act.put _ (some 105) _ = _
                   simp only [Act.put, sb1, sb2, sb3, i64_w, i32_w]
                   rfl
                  refine pure_ (i := 13) (N := some 7) (v := ?_) (a' := ?_) #[true, true, true, true, true, true, true, true, true, true, true, true, true, true] rfl rfl (any_of HT_.out (by kernel_rfl)) (fun _ _ _ h => h) (Or.inl ⟨by rfl, ?_⟩) ?_ ?_
                  rotate_left
                  ·intro w'
                   go_simp
                   with_reducible rfl
                  rotate_left
                  ·simp only [Act.put, sb1, sb2, sb3, i64_w, i32_w]
                   rfl
                  refine done_ (done_of HT_.out (by kernel_rfl)) ?_
                  try go_wp2
                  go_roundg kj10
                  case measure => have := HK1.out; have := HJ10.out; omega
                  case rel => exact ⟨(y226), (ji45), (by first | rfl | (simp; done) | (simp only [← hji45] <;> (first | rfl | simp)) | (simp [*]; done)), H', ⟨by have := HK1.out; have := HJ10.out; omega⟩, ⟨by (with_reducible repeat (first | apply Kd.R_alloc | apply Kd.R_drewN | apply Kd.R_drew)); exact HO228.out⟩, ⟨by (with_reducible repeat (first | apply Kd.R_alloc | apply Kd.R_drewN | apply Kd.R_drew)); exact HO_8.out⟩, ⟨by repeat (first | (with_reducible first | exact HB.out | apply bal | apply bdn | apply bd1) | exact HB.out)⟩⟩
                 ·rw [if_neg c48] at H
                  exact absurd H (by simp)
                ·rw [if_neg c47] at H
                 exact absurd H (by simp)
               ·rw [if_neg c46] at H
                exact absurd H (by simp)
             ·rw [if_neg c35] at H
              exact absurd H (by simp)
            ·rw [if_neg c34] at H
             exact absurd H (by simp)
           ·rw [if_neg c33] at H
            exact absurd H (by simp)
          ·rw [if_neg c32] at H
           exact absurd H (by simp)
         ·rw [if_neg c30] at H
          have c30b0 : decide (0 ≤ (wrap64 ((x7_1.length : Int) - 1))) = false := decide_eq_false c30
          clear c30
          by_cases c53 : 0 ≤ x9_1
          ·rw [if_pos c53] at H
           have c53b0 : decide (0 ≤ x9_1) = true := decide_eq_true c53
           clear c53
           by_cases c54 : x9_1 < (t213.length : Int)
           ·rw [if_pos c54] at H
            have c54b0 : decide (x9_1 < (t213.length : Int)) = true := decide_eq_true c54
            clear c54
            obtain ⟨ji55, hji55⟩ : ∃ j_ : Int, (wrap64 (x9_1 + 1)) = j_ := ⟨_, rfl⟩
            replace H : (if 0 ≤ (ji55) then (if (ji55) < (t213.length : Int) then (if x7_1.length < 8796093022208 then (r02_of.l0 kj10 l0 l1 a2 (x7_1 ++ [(⟨rd t213 x9_1, rd t213 (ji55)⟩ : S42)]) t213 ji55) else (none)) else (none)) else (none)) = some r := by first | (rw [hji55] at H; exact H) | (simp only [hji55] at H ⊢; exact H)
            (try rw [hji55] at c6b0)
            have hji55w : (IntKind.i64.wrap (x9_1 + 1)) = ji55 := (i64_w _).trans hji55
            by_cases c56 : 0 ≤ (ji55)
            ·rw [if_pos c56] at H
             have c56b0 : decide (0 ≤ (ji55)) = true := decide_eq_true c56
             clear c56
             by_cases c57 : (ji55) < (t213.length : Int)
             ·rw [if_pos c57] at H
              have c57b0 : decide ((ji55) < (t213.length : Int)) = true := decide_eq_true c57
              clear c57
              by_cases c58 : x7_1.length < 8796093022208
              ·rw [if_pos c58] at H
               have LMc58 := am c58
               clear c58
               obtain ⟨y231, hy231⟩ : ∃ y_ : List (S42), y_ = (x7_1 ++ [(⟨rd t213 x9_1, rd t213 (ji55)⟩ : S42)]) := ⟨_, rfl⟩
               replace H : (r02_of.l0 kj10 l0 l1 a2 y231 t213 ji55) = some r := by first | (rw [hy231]; with_reducible exact H) | (have H2_ := (Option.bind_some _ _).symm.trans H; rw [hy231]; with_reducible exact H2_) | (have H2_ := (Option.bind_some _ _).symm.trans H; with_reducible exact H2_) | with_reducible exact H | (rw [hy231]; exact H) | exact H
               have Ny231 := am hy231
               clear hy231
               have H' := am H
               clear H
               obtain ⟨Ao59, co59, eo59⟩ := Kd.R_slice HO_7.out
               subst eo59
               try go_wp2
               have n0_ := am (Kd.R_drew HO_7.out)
               have n1_ := am (Kd.R_drew HO_8.out)
               have n2_ := am (bd1 HB.out)
               clear HO_7
               clear HO_8
               clear HB
               have HO_7 := n0_
               have HO_8 := n1_
               have HB := n2_
               clear n0_ n1_ n2_
               refine start_ (n := 14) (S := fun w' => True) (ds := []) #[false, false, false, false, false, false, false, false, false, false, false, false, false, false] (by kernel_rfl) rfl rfl trivial (fun hHeld => ?_); refine with_tabW r02_of.tab10 r02_of.bits10 (fun HT_ HW_ => ?_)
               generalize wc.drew = w60 at HO_7 HO_8 HB hHeld ⊢
               refine pure_ (i := 0) (N := some 70) (v := ?_) (a' := ?_) #[true, false, false, false, false, false, false, false, false, false, false, false, false, false] rfl rfl (any_of HT_.out (by kernel_rfl)) (fun _ _ _ h => h) (Or.inl ⟨by rfl, ?_⟩) ?_ ?_
               rotate_left
               ·intro w'
                go_simp
                with_reducible rfl
               rotate_left
               ·simp only [Act.put, sb1, sb2, sb3, i64_w, i32_w]
                rfl
               refine pure_ (i := 1) (N := some 71) (v := ?_) (a' := ?_) #[true, true, false, false, false, false, false, false, false, false, false, false, false, false] rfl rfl (any_of HT_.out (by kernel_rfl)) (fun _ _ _ h => h) (Or.inl ⟨by rfl, ?_⟩) ?_ ?_
               rotate_left
               ·intro w'
                go_simp
                with_reducible rfl
               rotate_left
               ·simp only [Act.put, sb1, sb2, sb3, i64_w, i32_w]
                rfl
               refine pure_ (i := 2) (N := some 72) (v := ?_) (a' := ?_) #[true, true, true, false, false, false, false, false, false, false, false, false, false, false] rfl rfl (any_of HT_.out (by kernel_rfl)) (fun _ _ _ h => h) (Or.inl ⟨by rfl, ?_⟩) ?_ ?_
               rotate_left
               ·intro w'
                go_simp
                with_reducible rfl
               rotate_left
               ·simp only [Act.put, sb1, sb2, sb3, i64_w, i32_w]
                rfl
               refine pure_ (i := 3) (N := some 73) (v := undef) (a' := ?_) #[true, true, true, true, false, false, false, false, false, false, false, false, false, false] rfl rfl (any_of HT_.out (by kernel_rfl)) (fun _ _ _ h => h) (Or.inr ⟨by rfl, rfl⟩) ?_ ?_
               rotate_left
               ·simp only [Act.put, sb1, sb2, sb3, i64_w, i32_w]
                rfl
               refine pure_ (i := 4) (N := some 74) (v := undef) (a' := ?_) #[true, true, true, true, true, false, false, false, false, false, false, false, false, false] rfl rfl (any_of HT_.out (by kernel_rfl)) (fun _ _ _ h => h) (Or.inr ⟨by rfl, rfl⟩) ?_ ?_
               rotate_left
               ·simp only [Act.put, sb1, sb2, sb3, i64_w, i32_w]
                rfl
               refine pure_ (i := 5) (N := some 75) (v := undef) (a' := ?_) #[true, true, true, true, true, true, false, false, false, false, false, false, false, false] rfl rfl (any_of HT_.out (by kernel_rfl)) (fun _ _ _ h => h) (Or.inr ⟨by rfl, rfl⟩) ?_ ?_
               rotate_left
               ·simp only [Act.put, sb1, sb2, sb3, i64_w, i32_w]
                rfl
               refine pure_ (i := 6) (N := some 76) (v := undef) (a' := ?_) #[true, true, true, true, true, true, true, false, false, false, false, false, false, false] rfl rfl (any_of HT_.out (by kernel_rfl)) (fun _ _ _ h => h) (Or.inr ⟨by rfl, rfl⟩) ?_ ?_
               rotate_left
               ·simp only [Act.put, sb1, sb2, sb3, i64_w, i32_w]
                rfl
               refine pure_ (i := 7) (N := some 77) (v := undef) (a' := ?_) #[true, true, true, true, true, true, true, true, false, false, false, false, false, false] rfl rfl (any_of HT_.out (by kernel_rfl)) (fun _ _ _ h => h) (Or.inr ⟨by rfl, rfl⟩) ?_ ?_
               rotate_left
               ·simp only [Act.put, sb1, sb2, sb3, i64_w, i32_w]
                rfl
               refine pure_ (i := 8) (N := some 78) (v := undef) (a' := ?_) #[true, true, true, true, true, true, true, true, true, false, false, false, false, false] rfl rfl (any_of HT_.out (by kernel_rfl)) (fun _ _ _ h => h) (Or.inr ⟨by rfl, rfl⟩) ?_ ?_
               rotate_left
               ·simp only [Act.put, sb1, sb2, sb3, i64_w, i32_w]
                rfl
               refine pure_ (i := 9) (N := some 79) (v := undef) (a' := ?_) #[true, true, true, true, true, true, true, true, true, true, false, false, false, false] rfl rfl (any_of HT_.out (by kernel_rfl)) (fun _ _ _ h => h) (Or.inr ⟨by rfl, rfl⟩) ?_ ?_
               rotate_left
               ·simp only [Act.put, sb1, sb2, sb3, i64_w, i32_w]
                rfl
               refine pure_ (i := 10) (N := some 80) (v := undef) (a' := ?_) #[true, true, true, true, true, true, true, true, true, true, true, false, false, false] rfl rfl (any_of HT_.out (by kernel_rfl)) (fun _ _ _ h => h) (Or.inr ⟨by rfl, rfl⟩) ?_ ?_
               rotate_left
               ·simp only [Act.put, sb1, sb2, sb3, i64_w, i32_w]
                rfl
               refine pure_ (i := 11) (N := some 81) (v := undef) (a' := ?_) #[true, true, true, true, true, true, true, true, true, true, true, true, false, false] rfl rfl (any_of HT_.out (by kernel_rfl)) (fun _ _ _ h => h) (Or.inr ⟨by rfl, rfl⟩) ?_ ?_
               rotate_left
               ·simp only [Act.put, sb1, sb2, sb3, i64_w, i32_w]
                rfl
               refine pure_ (i := 12) (N := some 82) (v := undef) (a' := ?_) #[true, true, true, true, true, true, true, true, true, true, true, true, true, false] rfl rfl (any_of HT_.out (by kernel_rfl)) (fun _ _ _ h => h) (Or.inr ⟨by rfl, rfl⟩) ?_ ?_
               rotate_left
               ·simp only [Act.put, sb1, sb2, sb3, i64_w, i32_w]
                rfl
               refine pure_ (i := 13) (N := some 83) (v := ?_) (a' := ?_) #[true, true, true, true, true, true, true, true, true, true, true, true, true, true] rfl rfl (any_of HT_.out (by kernel_rfl)) (fun _ _ _ h => h) (Or.inl ⟨by rfl, ?_⟩) ?_ ?_
               rotate_left
               ·intro w'
                go_simp
                with_reducible rfl
               rotate_left
               ·simp only [Act.put, sb1, sb2, sb3, i64_w, i32_w]
                rfl
               refine done_ (done_of HT_.out (by kernel_rfl)) ?_
               try go_wp2
               have n0_ := am (Kd.R_drew HO_7.out)
               have n1_ := am (Kd.R_drew HO_8.out)
               have n2_ := am (bd1 HB.out)
               clear HO_7
               clear HO_8
               clear HB
               have HO_7 := n0_
               have HO_8 := n1_
               have HB := n2_
               clear n0_ n1_ n2_
               have p229 : 0 ≤ (x9_1 : Int) := of_decide_eq_true (by first | (with_reducible assumption) | assumption)
               have q229 : x9_1 < (t213.length : Int) := of_decide_eq_true (by first | (with_reducible assumption) | assumption)
               obtain ⟨ad229, e229, hx229_0⟩ := Kd.at_int (Kd.R_reads' HO_8.out).2.2 x9_1 p229 q229
               obtain rfl : ad216 = ad229 := (by injection e229)
               replace p229 := eq_true p229
               replace q229 := eq_true q229
               have p230 : 0 ≤ ((ji55) : Int) := of_decide_eq_true (by first | (with_reducible assumption) | assumption)
               have q230 : (ji55) < (t213.length : Int) := of_decide_eq_true (by first | (with_reducible assumption) | assumption)
               obtain ⟨ad230, e230, hx230_0⟩ := Kd.at_int (Kd.R_reads' HO_8.out).2.2 (ji55) p230 q230
               obtain rfl : ad216 = ad230 := (by injection e230)
               replace p230 := eq_true p230
               replace q230 := eq_true q230
               refine start_ (n := 14) (S := fun w' => w'.cell? (ad216.add (x9_1).toNat) = some (.int .i64 (rd t213 x9_1)) ∧ w'.cell? (ad216.add ((ji55)).toNat) = some (.int .i64 (rd t213 (ji55)))) (ds := [11, 12]) #[false, false, false, false, false, false, false, false, false, false, false, false, false, false] (by kernel_rfl) rfl rfl ⟨hx229_0, hx230_0⟩ (fun hHeld => ?_); refine with_tabW r02_of.tab12 r02_of.bits12 (fun HT_ HW_ => ?_)
               generalize w60.drew = w61 at HO_7 HO_8 HB hx229_0 hx230_0 hHeld ⊢
               refine pure_ (i := 0) (N := some 93) (v := ?_) (a' := ?_) #[true, false, false, false, false, false, false, false, false, false, false, false, false, false] rfl rfl (any_of HT_.out (by kernel_rfl)) (fun _ _ _ h => h) (Or.inl ⟨by rfl, ?_⟩) ?_ ?_
               rotate_left
               ·intro w'
                go_simp
                with_reducible rfl
               rotate_left
               ·simp only [Act.put, sb1, sb2, sb3, i64_w, i32_w]
                rfl
               refine pure_ (i := 1) (N := some 94) (v := ?_) (a' := ?_) #[true, true, false, false, false, false, false, false, false, false, false, false, false, false] rfl rfl (any_of HT_.out (by kernel_rfl)) (fun _ _ _ h => h) (Or.inl ⟨by rfl, ?_⟩) ?_ ?_
               rotate_left
               ·intro w'
                go_simp
                with_reducible rfl
               rotate_left
               ·simp only [Act.put, sb1, sb2, sb3, i64_w, i32_w]
                rfl
               refine pure_ (i := 2) (N := some 95) (v := ?_) (a' := ?_) #[true, true, true, false, false, false, false, false, false, false, false, false, false, false] rfl rfl (any_of HT_.out (by kernel_rfl)) (fun _ _ _ h => h) (Or.inl ⟨by rfl, ?_⟩) ?_ ?_
               rotate_left
               ·intro w'
                go_simp
                with_reducible rfl
               rotate_left
               ·simp only [Act.put, sb1, sb2, sb3, i64_w, i32_w]
                rfl
               refine pure_ (i := 3) (N := some 96) (v := ?_) (a' := ?_) #[true, true, true, true, false, false, false, false, false, false, false, false, false, false] rfl rfl (any_of HT_.out (by kernel_rfl)) (fun _ _ _ h => h) (Or.inl ⟨by rfl, ?_⟩) ?_ ?_
               rotate_left
               ·intro w'
                go_simp
                with_reducible rfl
               rotate_left
               ·simp only [Act.put, sb1, sb2, sb3, i64_w, i32_w]
                rfl
               refine pure_ (i := 5) (N := some 98) (v := ?_) (a' := ?_) #[true, true, true, true, false, true, false, false, false, false, false, false, false, false] rfl rfl (any_of HT_.out (by kernel_rfl)) (fun _ _ _ h => h) (Or.inl ⟨by rfl, ?_⟩) ?_ ?_
               rotate_left
               ·intro w'
                go_simp
                with_reducible rfl
               rotate_left
               ·simp only [Act.put, sb1, sb2, sb3, i64_w, i32_w]
                rfl
               refine pure_ (i := 6) (N := some 99) (v := ?_) (a' := ?_) #[true, true, true, true, false, true, true, false, false, false, false, false, false, false] rfl rfl (any_of HT_.out (by kernel_rfl)) (fun _ _ _ h => h) (Or.inl ⟨by rfl, ?_⟩) ?_ ?_
               rotate_left
               ·intro w'
                go_simp
                with_reducible rfl
               rotate_left
               ·simp only [Act.put, sb1, sb2, sb3, i64_w, i32_w]
                rfl
               refine pure_ (i := 7) (N := some 100) (v := ?_) (a' := ?_) #[true, true, true, true, false, true, true, true, false, false, false, false, false, false] rfl rfl (any_of HT_.out (by kernel_rfl)) (fun _ _ _ h => h) (Or.inl ⟨by rfl, ?_⟩) ?_ ?_
               rotate_left
               ·intro w'
                go_simp
                with_reducible rfl
               rotate_left
               ·simp only [Act.put, sb1, sb2, sb3, i64_w, i32_w]
                rfl
               refine pure_ (i := 8) (N := some 101) (v := ?_) (a' := ?_) #[true, true, true, true, false, true, true, true, true, false, false, false, false, false] rfl rfl (any_of HT_.out (by kernel_rfl)) (fun _ _ _ h => h) (Or.inl ⟨by rfl, ?_⟩) ?_ ?_
               rotate_left
               ·intro w'
                go_simp
                with_reducible rfl
               rotate_left
               ·simp only [Act.put, sb1, sb2, sb3, i64_w, i32_w]
                rfl
               refine take_ (i := 4) (N := some 97) (v := ?_) (a' := ?_) #[true, true, true, true, true, true, true, true, true, false, false, false, false, false] rfl rfl (take_ofW HT_.out HW_.out (by kernel_rfl)) (fun _ _ _ h => h) (Or.inl ⟨by rfl, ?_⟩) hHeld ?_ ?_
               rotate_left
               ·rintro w' ⟨s0, s1⟩
                go_simp
                with_reducible rfl
               rotate_left
               ·simp only [Act.put, sb1, sb2, sb3, i64_w, i32_w]
                rfl
               refine take_ (i := 9) (N := some 102) (v := ?_) (a' := ?_) #[true, true, true, true, true, true, true, true, true, true, false, false, false, false] rfl rfl (take_ofW HT_.out HW_.out (by kernel_rfl)) (fun _ _ _ h => h) (Or.inl ⟨by rfl, ?_⟩) hHeld ?_ ?_
               rotate_left
               ·rintro w' ⟨s0, s1⟩
                go_simp
                with_reducible rfl
               rotate_left
               ·simp only [Act.put, sb1, sb2, sb3, i64_w, i32_w]
                rfl
               refine pure_ (i := 10) (N := some 103) (v := ?_) (a' := ?_) #[true, true, true, true, true, true, true, true, true, true, true, false, false, false] rfl rfl (any_of HT_.out (by kernel_rfl)) (fun _ _ _ h => h) (Or.inl ⟨by rfl, ?_⟩) ?_ ?_
               rotate_left
               ·intro w'
                go_simp
                with_reducible rfl
               rotate_left
               ·simp only [Act.put, sb1, sb2, sb3, i64_w, i32_w]
                rfl
               refine last_ (i := 11) (N := some 104) #[true, true, true, true, true, true, true, true, true, true, true, true, false, false] rfl rfl (one_of HT_.out (by kernel_rfl)) (by decide) (fun K hK => ?_)
               refine value_ (w1 := ?_) (v := ?_) (by rfl) rfl ?_ ?_
               rotate_left 2
               ·go_simp
                constructor
                ·rfl
                ·rfl
               refine hK.out _ _ ?_
               clear hK K
               refine norm_ (a' := ?_) ?_ ?_
               rotate_left
               ·show Act.put _ (some 104) _ = _
                simp only [Act.put, sb1, sb2, sb3, i64_w, i32_w]
                rfl
               refine last_ (i := 12) (N := some 105) #[true, true, true, true, true, true, true, true, true, true, true, true, true, false] rfl rfl (one_of HT_.out (by kernel_rfl)) (by decide) (fun K hK => ?_)
               refine Kd.R_append_step k42 (w0 := w) w.heap.size (by rfl) (.tmp 93) (.tmp 104) 22 42 (.agg #[(.int .i64 0), (.int .i64 0)]) 16 rfl Tryd.underlying22 info42 rfl (by decide) (by omega) (.slice Ao59 x7_1.length co59) x7_1 (⟨rd t213 x9_1, rd t213 (ji55)⟩ : S42) [.int .i64 (rd t213 x9_1), .int .i64 (rd t213 (ji55))] (fun _ => True) (fun _ => False) rfl rfl ?aP (fun _ hk => hk.elim) ?aF ?aO ?aB ?aS ?aL ?_
               (case aP => exact k42_mkM _ _ _ (⟨rd t213 x9_1, rd t213 (ji55)⟩ : S42))
               (case aB => exact (by repeat (first | (with_reducible first | exact HB.out | apply bal | apply bdn | apply bd1) | exact HB.out)))
               (case aF => exact (fun _ _ => trivial))
               (case aO => exact (by (with_reducible repeat (first | apply Kd.R_alloc | apply Kd.R_drewN | apply Kd.R_drew)); exact HO_7.out))
               (case aS => exact (below_size (by repeat (first | (with_reducible first | exact HB.out | apply bal | apply bdn | apply bd1) | exact HB.out))))
               (case aL => have := LMc58.out; omega)
               intro v232 w62 ho hb hg hat
               rw [← Ny231.out] at ho
               have n0_ := am (Kd.R_over' (by (with_reducible repeat (first | apply Kd.R_alloc | apply Kd.R_drewN | apply Kd.R_drew)); exact HO_8.out) (Kd.R_typed (by (with_reducible repeat (first | apply Kd.R_alloc | apply Kd.R_drewN | apply Kd.R_drew)); exact HO_7.out)) (by decide) hg)
               have n1_ := am (hb)
               have n2_ := am (ho)
               clear HO_8
               clear HB
               clear HO_7
               have HO_8 := n0_
               have HB := n1_
               have HO233 := n2_
               clear n0_ n1_ n2_
               clear ho hb hg hat
               refine hK.out _ _ ?_
               clear hK K
               refine norm_ (a' := ?_) ?_ ?_
               rotate_left
               ·show Act.put _ (some 105) _ = _
                simp only [Act.put, sb1, sb2, sb3, i64_w, i32_w]
                rfl
               refine pure_ (i := 13) (N := some 7) (v := ?_) (a' := ?_) #[true, true, true, true, true, true, true, true, true, true, true, true, true, true] rfl rfl (any_of HT_.out (by kernel_rfl)) (fun _ _ _ h => h) (Or.inl ⟨by rfl, ?_⟩) ?_ ?_
               rotate_left
               ·intro w'
                go_simp
                with_reducible rfl
               rotate_left
               ·simp only [Act.put, sb1, sb2, sb3, i64_w, i32_w]
                rfl
               refine done_ (done_of HT_.out (by kernel_rfl)) ?_
               try go_wp2
               go_roundg kj10
               case measure => have := HK1.out; have := HJ10.out; omega
               case rel => exact ⟨(y231), (ji55), (by first | rfl | (simp; done) | (simp only [← hji55] <;> (first | rfl | simp)) | (simp [*]; done)), H', ⟨by have := HK1.out; have := HJ10.out; omega⟩, ⟨by (with_reducible repeat (first | apply Kd.R_alloc | apply Kd.R_drewN | apply Kd.R_drew)); exact HO233.out⟩, ⟨by (with_reducible repeat (first | apply Kd.R_alloc | apply Kd.R_drewN | apply Kd.R_drew)); exact HO_8.out⟩, ⟨by repeat (first | (with_reducible first | exact HB.out | apply bal | apply bdn | apply bd1) | exact HB.out)⟩⟩
              ·rw [if_neg c58] at H
               exact absurd H (by simp)
             ·rw [if_neg c57] at H
              exact absurd H (by simp)
            ·rw [if_neg c56] at H
             exact absurd H (by simp)
           ·rw [if_neg c54] at H
            exact absurd H (by simp)
          ·rw [if_neg c53] at H
           exact absurd H (by simp)
        ·replace c29 := Bool.eq_false_iff.mpr c29
         subst c29
         have H1 : (r02_of.l0 kj10 l0 l1 a2 x7_1 t213 (wrap64 (x9_1 + 1))) = some r := by rw [if_neg (show ¬ (false = true) by decide)] at H; exact H
         clear H
         have H := H1
         clear H1
         have H' := am H
         clear H
         go_wp2
         go_roundg kj10
         case measure => have := HK1.out; have := HJ10.out; omega
         case rel => exact ⟨(x7_1), (wrap64 (x9_1 + 1)), (by first | rfl | (simp; done) | (simp [*]; done)), H', ⟨by have := HK1.out; have := HJ10.out; omega⟩, ⟨by (with_reducible repeat (first | apply Kd.R_alloc | apply Kd.R_drewN | apply Kd.R_drew)); exact HO_7.out⟩, ⟨by (with_reducible repeat (first | apply Kd.R_alloc | apply Kd.R_drewN | apply Kd.R_drew)); exact HO_8.out⟩, ⟨by repeat (first | (with_reducible first | exact HB.out | apply bal | apply bdn | apply bd1) | exact HB.out)⟩⟩
     ·rw [if_neg c8] at H
      exact absurd H (by simp)
    ·rw [if_neg c7] at H
     exact absurd H (by simp)
   ·rw [if_neg c6] at H
    have c6b0 : decide ((wrap64 (x9_1 + 1)) < (t213.length : Int)) = false := decide_eq_false c6
    clear c6
    obtain rfl := Option.some.inj H
    obtain ⟨Ao63, co63, eo63⟩ := Kd.R_slice HO_8.out
    subst eo63
    go_wp2
    go_ret
    exact ⟨_, by first | rfl | (simp [errW_none, errW_some] <;> rfl) | (simp [*, errW_none, errW_some] <;> rfl), by (with_reducible repeat (first | apply Kd.R_alloc | apply Kd.R_drewN | apply Kd.R_drew)); exact HO_7.out, by repeat (first | (with_reducible first | exact HB.out | apply bal | apply bdn | apply bd1) | exact HB.out)⟩

end Go.Proofs.YtbgojgoejlhgeaaDoor.Pr
