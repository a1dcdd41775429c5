-- PRINTED by print.py (a twelfth state) out of the translation, parted. Not trusted: Lean checks it.
import Derived.Test.YtbgojgoejlhgeaaDoorG4r
namespace Go.Proofs.YtbgojgoejlhgeaaDoor.Pr
open Go.RowKit Go.Proofs.YtbgojgoejlhgeaaDoorW.PrintWords Go.Proofs.YtbgojgoejlhgeaaDoorW.PrintLast Go.Proofs.YtbgojgoejlhgeaaDoorW.PrintMore
attribute [local go_sem] max2_int min2_int max_two min_two max_three min_three max_four min_four
set_option linter.unusedVariables false
set_option linter.unusedSimpArgs false

/-! ### r02_insert: function 80 -/
mutual
def r02_insert.l0 : Nat → List Int → Int → List Int → Bool → Int → Option (List Int)
 | 0, _, _, _, _, _ => none
 | k + 1, x0, x1, x5, x6, x7 => if x7 < (x0.length : Int) then (if x6 = true then (r02_insert.j1 k x0 x1 x5 x6 x7 false) else (if 0 ≤ x7 then (r02_insert.j1 k x0 x1 x5 x6 x7 (decide ((rd x0 x7) ≥ x1))) else (none))) else (if x6 = true then (some x5) else (if x5.length < 17592186044416 then (some (x5 ++ [x1])) else (none)))
def r02_insert.j1 : Nat → List Int → Int → List Int → Bool → Int → Bool → Option (List Int)
 | 0, _, _, _, _, _, _ => none
 | k + 1, x0, x1, x5, x6, x7, x23 => if x23 = true then (if 0 ≤ x7 then (if x7 < (x0.length : Int) then (if (rd x0 x7) > x1 then (if x5.length < 17592186044416 then ((some (x5 ++ [x1] : List Int)).bind fun y179 => (if y179.length < 17592186044416 then (r02_insert.l0 k x0 x1 (y179 ++ [rd x0 x7]) true (wrap64 (x7 + 1))) else (none))) else (none)) else (if x5.length < 17592186044416 then (r02_insert.l0 k x0 x1 (x5 ++ [rd x0 x7]) true (wrap64 (x7 + 1))) else (none))) else (none)) else (none)) else (if 0 ≤ x7 then (if x7 < (x0.length : Int) then (if x5.length < 17592186044416 then (r02_insert.l0 k x0 x1 (x5 ++ [rd x0 x7]) x6 (wrap64 (x7 + 1))) else (none)) else (none)) else (none))
end
def r02_insert.f (k : Nat) (l0 : List Int) (a1 : Int) : Option (List Int) := r02_insert.l0 k l0 a1 ([] : List Int) false 0
theorem r02_insert.mono_l : ∀ k, (∀ y0 y1 y2 y3 y4, LeO (r02_insert.l0 k y0 y1 y2 y3 y4) (r02_insert.l0 (k + 1) y0 y1 y2 y3 y4)) ∧ (∀ y0 y1 y2 y3 y4 y5, LeO (r02_insert.j1 k y0 y1 y2 y3 y4 y5) (r02_insert.j1 (k + 1) y0 y1 y2 y3 y4 y5))
 | 0 => ⟨fun _ _ _ _ _ r h => by simp [r02_insert.l0] at h, fun _ _ _ _ _ _ r h => by simp [r02_insert.j1] at h⟩
 | k + 1 => by
  obtain ⟨ih0, ih1⟩ := r02_insert.mono_l k
  refine ⟨?_, ?_⟩
  ·intro y0 y1 y2 y3 y4
   unfold r02_insert.l0
   repeat' first
   | (with_reducible exact ih0 _ _ _ _ _)
   | (with_reducible exact ih1 _ _ _ _ _ _)
   | (with_reducible exact LeO.refl _)
   | (with_reducible exact LeO.none _)
   | (with_reducible refine LeO.ite ?_ ?_)
   | (with_reducible refine LeO.bind ?_ (fun _ => ?_))
   | exact ih0 _ _ _ _ _
   | exact ih1 _ _ _ _ _ _
   | exact LeO.none _
   | refine LeO.ite ?_ ?_
   | refine LeO.bind ?_ (fun _ => ?_)
  ·intro y0 y1 y2 y3 y4 y5
   unfold r02_insert.j1
   repeat' first
   | (with_reducible exact ih0 _ _ _ _ _)
   | (with_reducible exact ih1 _ _ _ _ _ _)
   | (with_reducible exact LeO.refl _)
   | (with_reducible exact LeO.none _)
   | (with_reducible refine LeO.ite ?_ ?_)
   | (with_reducible refine LeO.bind ?_ (fun _ => ?_))
   | exact ih0 _ _ _ _ _
   | exact ih1 _ _ _ _ _ _
   | exact LeO.none _
   | refine LeO.ite ?_ ?_
   | refine LeO.bind ?_ (fun _ => ?_)
theorem r02_insert.mono : ∀ a0 a1 k, LeO (r02_insert.f k a0 a1) (r02_insert.f (k + 1) a0 a1) := by
 intro a0 a1 k
 obtain ⟨ih0, ih1⟩ := r02_insert.mono_l k
 unfold r02_insert.f
 repeat' first
   | (with_reducible exact ih0 _ _ _ _ _)
   | (with_reducible exact ih1 _ _ _ _ _ _)
   | (with_reducible exact LeO.refl _)
   | (with_reducible exact LeO.none _)
   | (with_reducible refine LeO.ite ?_ ?_)
   | (with_reducible refine LeO.bind ?_ (fun _ => ?_))
   | exact ih0 _ _ _ _ _
   | exact ih1 _ _ _ _ _ _
   | exact LeO.none _
   | refine LeO.ite ?_ ?_
   | refine LeO.bind ?_ (fun _ => ?_)
set_option maxHeartbeats 8000000 in
set_option maxRecDepth 100000 in
theorem r02_insert.calls (k : Nat) (A0 : Option Addr) (c0 : Nat) (l0 : List Int) (a1 : Int) (r : List Int) (w : World) (hr0 : Kd.C (Kd.int .i64) w A0 l0.length l0) (hc0 : l0.length ≤ c0) (h : r02_insert.f k l0 a1 = some r) :
  Calls Tryd.prog 80 #[.slice A0 l0.length c0, .int .i64 a1] w fun e w' => ∃ v0_ : Value, e = .returned (v0_) ∧ Kd.R (Kd.int .i64) 2 w' w.heap.size (fun _ => True) v0_ r ∧ Below w.heap.size w w' := by
 have HR0 := am hr0
 have HC0 := am hc0
 clear hr0 hc0
 have HB := am (Below.refl w.heap.size w)
 have H : (r02_insert.l0 k l0 a1 ([] : List Int) false 0) = some r := h
 clear h
 have H' := am H
 clear H
 go_enter Tryd.func80, Tryd.ntmps80
 go_wp2
 go_loopg [5, 6, 7] k (fun kq v5 v6 v7 w' => ∃ (x5_1 : List Int) (x6_1 : Bool) (x7_1 : Int), v6 = .bool x6_1 ∧ v7 = .int .i64 x7_1 ∧ Aside0 (r02_insert.l0 kq l0 a1 x5_1 x6_1 x7_1 = some r) ∧ Aside0 (kq ≤ k) ∧ Aside0 (Kd.R (Kd.int .i64) 2 w' w.heap.size (fun _ => True) v5 x5_1) ∧ Aside0 (Below w.heap.size w w'))
 case atStart => exact ⟨(([] : List Int)), (false), (0), (by first | rfl | (simp; done) | (simp [*]; done)), (by first | rfl | (simp; done) | (simp [*]; done)), H', ⟨Nat.le_refl _⟩, ⟨by first | exact Kd.R_nil _ _ _ _ _ | exact Kd.N_nil _ _ _ _ _ | exact Kd.V_nil _ _ _ _ _ | exact Kd.Q_nil _ _ _ _ _ | exact Kd.S_nil _ _ _ _ _⟩, ⟨by repeat (first | (with_reducible first | exact HB.out | apply bal | apply bdn | apply bd1) | exact HB.out)⟩⟩
 case round =>
  clear H'
  try clear p2
  obtain ⟨x5_1, x6_1, x7_1, rfl, rfl, HA, HK1, HO_5, HB⟩ := hrel
  cases gk with
  | zero => exact absurd HA.out (by simp [r02_insert.l0])
  | succ k1 =>
   have H := HA.out
   clear HA
   simp only [r02_insert.l0] at H
   by_cases c3 : x7_1 < (l0.length : Int)
   ·rw [if_pos c3] at H
    have c3b0 : decide (x7_1 < (l0.length : Int)) = true := decide_eq_true c3
    clear c3
    have HC4 := am H
    clear H
    go_upto_region 6 with (fail)
    go_cut [23] (fun v23 wc => ∃ (kq : Nat) (x23_3 : Bool), v23 = .bool x23_3 ∧ Aside0 (r02_insert.j1 kq l0 a1 x5_1 x6_1 x7_1 x23_3 = some r) ∧ Aside0 (kq ≤ k1) ∧ Aside0 (Kd.R (Kd.int .i64) 2 wc w.heap.size (fun _ => True) u5 x5_1) ∧ Aside0 (Below w.heap.size w wc))
    case first =>
     have H := HC4.out
     clear HC4
     by_cases c5 : x6_1 = true
     ·subst c5
      have H1 : (r02_insert.j1 k1 l0 a1 x5_1 true x7_1 false) = some r := by rw [if_pos rfl] at H; exact H
      clear H
      have H := H1
      clear H1
      have H' := am H
      clear H
      go_wp2
      go_meet
      case rel => exact ⟨_, (false), (by first | rfl | (simp; done) | (simp [*]; done)), H', ⟨by have := HK1.out; first | omega | exact Nat.le_refl _⟩, ⟨by (with_reducible repeat (first | apply Kd.R_alloc | apply Kd.R_drewN | apply Kd.R_drew)); exact HO_5.out⟩, ⟨by repeat (first | (with_reducible first | exact HB.out | apply bal | apply bdn | apply bd1) | exact HB.out)⟩⟩
     ·replace c5 := Bool.eq_false_iff.mpr c5
      subst c5
      have H1 : (if 0 ≤ x7_1 then (r02_insert.j1 k1 l0 a1 x5_1 false x7_1 (decide ((rd l0 x7_1) ≥ a1))) else (none)) = some r := by rw [if_neg (show ¬ (false = true) by decide)] at H; exact H
      clear H
      have H := H1
      clear H1
      by_cases c6 : 0 ≤ x7_1
      ·rw [if_pos c6] at H
       have c6b0 : decide (0 ≤ x7_1) = true := decide_eq_true c6
       clear c6
       (first | rw [c6b0] | (simp only [i64_w, i32_w]; rw [c6b0]) | skip)
       have H' := am H
       clear H
       have p177 : 0 ≤ (x7_1 : Int) := of_decide_eq_true (by first | (with_reducible assumption) | assumption)
       have q177 : x7_1 < (l0.length : Int) := of_decide_eq_true (by first | (with_reducible assumption) | assumption)
       obtain ⟨ad177, e177, hx177_0⟩ := Kd.at_int HR0.out x7_1 p177 q177
       cases e177
       replace hx177_0 := (HB.out.cell (World.block_lt_of_cell? w _ hx177_0)).trans hx177_0
       replace p177 := eq_true p177
       replace q177 := eq_true q177
       go_wp2
       go_meet
       case rel => exact ⟨_, (decide ((rd l0 x7_1) ≥ a1)), (by first | rfl | (simp; done) | (simp [*]; done)), H', ⟨by have := HK1.out; first | omega | exact Nat.le_refl _⟩, ⟨by (with_reducible repeat (first | apply Kd.R_alloc | apply Kd.R_drewN | apply Kd.R_drew)); exact HO_5.out⟩, ⟨by repeat (first | (with_reducible first | exact HB.out | apply bal | apply bdn | apply bd1) | exact HB.out)⟩⟩
      ·rw [if_neg c6] at H
       exact absurd H (by simp)
    case rest =>
     clear HC4
     try clear p1
     try clear q1
     try clear hx1
     try clear p2
     try clear c3
     try clear c3b0
     try clear c5
     try clear c6
     try clear c6b0
     try clear hx177_0
     try clear p177
     try clear p2
     try clear q177
     obtain ⟨kq, x23_3, rfl, HA, HJ3, HO_5, HB⟩ := hcut
     cases kq with
     | zero => exact absurd HA.out (by simp [r02_insert.j1])
     | succ kj3 =>
      have H := HA.out
      clear HA
      simp only [r02_insert.j1] at H
      by_cases c7 : x23_3 = true
      ·subst c7
       have H1 : (if 0 ≤ x7_1 then (if x7_1 < (l0.length : Int) then (if (rd l0 x7_1) > a1 then (if x5_1.length < 17592186044416 then ((some (x5_1 ++ [a1] : List Int)).bind fun y179 => (if y179.length < 17592186044416 then (r02_insert.l0 kj3 l0 a1 (y179 ++ [rd l0 x7_1]) true (wrap64 (x7_1 + 1))) else (none))) else (none)) else (if x5_1.length < 17592186044416 then (r02_insert.l0 kj3 l0 a1 (x5_1 ++ [rd l0 x7_1]) true (wrap64 (x7_1 + 1))) else (none))) else (none)) else (none)) = some r := by rw [if_pos rfl] at H; exact H
       clear H
       have H := H1
       clear H1
       by_cases c8 : 0 ≤ x7_1
       ·rw [if_pos c8] at H
        have c8b0 : decide (0 ≤ x7_1) = true := decide_eq_true c8
        clear c8
        by_cases c9 : x7_1 < (l0.length : Int)
        ·rw [if_pos c9] at H
         have c9b0 : decide (x7_1 < (l0.length : Int)) = true := decide_eq_true c9
         clear c9
         by_cases c10 : (rd l0 x7_1) > a1
         ·rw [if_pos c10] at H
          have c10b0 : decide (a1 < (rd l0 x7_1)) = true := decide_eq_true c10
          clear c10
          by_cases c11 : x5_1.length < 17592186044416
          ·rw [if_pos c11] at H
           have LMc11 := am c11
           clear c11
           obtain ⟨y179, hy179⟩ : ∃ y_ : List Int, y_ = (x5_1 ++ [a1]) := ⟨_, rfl⟩
           replace H : (if y179.length < 17592186044416 then (r02_insert.l0 kj3 l0 a1 (y179 ++ [rd l0 x7_1]) true (wrap64 (x7_1 + 1))) else (none)) = some r := by first | (rw [hy179]; with_reducible exact H) | (have H2_ := (Option.bind_some _ _).symm.trans H; rw [hy179]; with_reducible exact H2_) | (have H2_ := (Option.bind_some _ _).symm.trans H; with_reducible exact H2_) | with_reducible exact H | (rw [hy179]; exact H) | exact H
           have Ny179 := am hy179
           clear hy179
           by_cases c12 : y179.length < 17592186044416
           ·rw [if_pos c12] at H
            have LMc12 := am c12
            clear c12
            obtain ⟨y183, hy183⟩ : ∃ y_ : List Int, y_ = (y179 ++ [rd l0 x7_1]) := ⟨_, rfl⟩
            replace H : (r02_insert.l0 kj3 l0 a1 y183 true (wrap64 (x7_1 + 1))) = some r := by first | (rw [hy183]; with_reducible exact H) | (have H2_ := (Option.bind_some _ _).symm.trans H; rw [hy183]; with_reducible exact H2_) | (have H2_ := (Option.bind_some _ _).symm.trans H; with_reducible exact H2_) | with_reducible exact H | (rw [hy183]; exact H) | exact H
            have Ny183 := am hy183
            clear hy183
            have H' := am H
            clear H
            have p178 : 0 ≤ (x7_1 : Int) := of_decide_eq_true (by first | (with_reducible assumption) | assumption)
            have q178 : x7_1 < (l0.length : Int) := of_decide_eq_true (by first | (with_reducible assumption) | assumption)
            obtain ⟨ad178, e178, hx178_0⟩ := Kd.at_int HR0.out x7_1 p178 q178
            cases e178
            replace hx178_0 := (HB.out.cell (World.block_lt_of_cell? w _ hx178_0)).trans hx178_0
            replace p178 := eq_true p178
            replace q178 := eq_true q178
            go_wp2_with (first | ((with_reducible refine gate_builtin (b := .append) (xs := #[.tmp 30, .tmp 32]) rfl ?_); at_builtin; refine Kd.R_append (Kd.int .i64) (w0 := w) w.heap.size rfl (.tmp 30) (.tmp 32) 96 2 (.int .i64 0) 8 rfl Tryd.underlying96 info2 rfl (by decide) (by omega) u5 x5_1 a1 [.int .i64 a1] (fun _ => True) (fun _ => False) rfl rfl ?aP (fun _ hk => hk.elim) ?aF ?aO ?aB ?aS ?aL ?_; (case aP => exact rfl); (case aB => exact (by repeat (first | (with_reducible first | exact HB.out | apply bal | apply bdn | apply bd1) | exact HB.out))); (case aF => exact (fun _ _ => trivial)); (case aO => exact (by (with_reducible repeat (first | apply Kd.R_alloc | apply Kd.R_drewN | apply Kd.R_drew)); exact HO_5.out)); (case aS => exact (below_size (by repeat (first | (with_reducible first | exact HB.out | apply bal | apply bdn | apply bd1) | exact HB.out)))); (case aL => have := LMc11.out; omega); intro v180 w13 ho hb hg hat; rw [← Ny179.out] at ho; have n0_ := am (hb); have n1_ := am (ho); clear HB; clear HO_5; have HB := n0_; have HO181 := n1_; clear n0_ n1_; clear ho hb hg hat; have p182 : 0 ≤ (x7_1 : Int) := of_decide_eq_true (by first | (with_reducible assumption) | assumption); have q182 : x7_1 < (l0.length : Int) := of_decide_eq_true (by first | (with_reducible assumption) | assumption); obtain ⟨ad182, e182, hx182_0⟩ := Kd.at_int HR0.out x7_1 p182 q182; obtain rfl : ad178 = ad182 := (by injection e182); replace hx182_0 := (HB.out.cell (World.block_lt_of_cell? w _ hx182_0)).trans hx182_0; replace p182 := eq_true p182; replace q182 := eq_true q182) | ((with_reducible refine gate_builtin (b := .append) (xs := #[.tmp 34, .tmp 39]) rfl ?_); at_builtin; refine Kd.R_append (Kd.int .i64) (w0 := w) w.heap.size rfl (.tmp 34) (.tmp 39) 96 2 (.int .i64 0) 8 rfl Tryd.underlying96 info2 rfl (by decide) (by omega) v180 y179 (rd l0 x7_1) [.int .i64 (rd l0 x7_1)] (fun _ => True) (fun _ => False) rfl rfl ?aP (fun _ hk => hk.elim) ?aF ?aO ?aB ?aS ?aL ?_; (case aP => exact rfl); (case aB => exact (by repeat (first | (with_reducible first | exact HB.out | apply bal | apply bdn | apply bd1) | exact HB.out))); (case aF => exact (fun _ _ => trivial)); (case aO => exact (by (with_reducible repeat (first | apply Kd.R_alloc | apply Kd.R_drewN | apply Kd.R_drew)); exact HO181.out)); (case aS => exact (below_size (by repeat (first | (with_reducible first | exact HB.out | apply bal | apply bdn | apply bd1) | exact HB.out)))); (case aL => have := LMc12.out; omega); intro v184 w14 ho hb hg hat; rw [← Ny183.out] at ho; have n0_ := am (hb); have n1_ := am (ho); clear HB; clear HO181; have HB := n0_; have HO185 := n1_; clear n0_ n1_; clear ho hb hg hat))
            go_roundg kj3
            case measure => have := HK1.out; have := HJ3.out; omega
            case rel => exact ⟨(y183), (true), (wrap64 (x7_1 + 1)), (by first | rfl | (simp; done) | (simp [*]; done)), (by first | rfl | (simp; done) | (simp [*]; done)), H', ⟨by have := HK1.out; have := HJ3.out; omega⟩, ⟨by (with_reducible repeat (first | apply Kd.R_alloc | apply Kd.R_drewN | apply Kd.R_drew)); exact HO185.out⟩, ⟨by repeat (first | (with_reducible first | exact HB.out | apply bal | apply bdn | apply bd1) | exact HB.out)⟩⟩
           ·rw [if_neg c12] at H
            exact absurd H (by simp)
          ·rw [if_neg c11] at H
           exact absurd H (by simp)
         ·rw [if_neg c10] at H
          have c10b0 : decide (a1 < (rd l0 x7_1)) = false := decide_eq_false c10
          clear c10
          by_cases c15 : x5_1.length < 17592186044416
          ·rw [if_pos c15] at H
           have LMc15 := am c15
           clear c15
           obtain ⟨y187, hy187⟩ : ∃ y_ : List Int, y_ = (x5_1 ++ [rd l0 x7_1]) := ⟨_, rfl⟩
           replace H : (r02_insert.l0 kj3 l0 a1 y187 true (wrap64 (x7_1 + 1))) = some r := by first | (rw [hy187]; with_reducible exact H) | (have H2_ := (Option.bind_some _ _).symm.trans H; rw [hy187]; with_reducible exact H2_) | (have H2_ := (Option.bind_some _ _).symm.trans H; with_reducible exact H2_) | with_reducible exact H | (rw [hy187]; exact H) | exact H
           have Ny187 := am hy187
           clear hy187
           have H' := am H
           clear H
           have p178 : 0 ≤ (x7_1 : Int) := of_decide_eq_true (by first | (with_reducible assumption) | assumption)
           have q178 : x7_1 < (l0.length : Int) := of_decide_eq_true (by first | (with_reducible assumption) | assumption)
           obtain ⟨ad178, e178, hx178_0⟩ := Kd.at_int HR0.out x7_1 p178 q178
           cases e178
           replace hx178_0 := (HB.out.cell (World.block_lt_of_cell? w _ hx178_0)).trans hx178_0
           replace p178 := eq_true p178
           replace q178 := eq_true q178
           have p186 : 0 ≤ (x7_1 : Int) := of_decide_eq_true (by first | (with_reducible assumption) | assumption)
           have q186 : x7_1 < (l0.length : Int) := of_decide_eq_true (by first | (with_reducible assumption) | assumption)
           obtain ⟨ad186, e186, hx186_0⟩ := Kd.at_int HR0.out x7_1 p186 q186
           obtain rfl : ad178 = ad186 := (by injection e186)
           replace hx186_0 := (HB.out.cell (World.block_lt_of_cell? w _ hx186_0)).trans hx186_0
           replace p186 := eq_true p186
           replace q186 := eq_true q186
           go_wp2_with (first | ((with_reducible refine gate_builtin (b := .append) (xs := #[.tmp 34, .tmp 39]) rfl ?_); at_builtin; refine Kd.R_append (Kd.int .i64) (w0 := w) w.heap.size rfl (.tmp 34) (.tmp 39) 96 2 (.int .i64 0) 8 rfl Tryd.underlying96 info2 rfl (by decide) (by omega) u5 x5_1 (rd l0 x7_1) [.int .i64 (rd l0 x7_1)] (fun _ => True) (fun _ => False) rfl rfl ?aP (fun _ hk => hk.elim) ?aF ?aO ?aB ?aS ?aL ?_; (case aP => exact rfl); (case aB => exact (by repeat (first | (with_reducible first | exact HB.out | apply bal | apply bdn | apply bd1) | exact HB.out))); (case aF => exact (fun _ _ => trivial)); (case aO => exact (by (with_reducible repeat (first | apply Kd.R_alloc | apply Kd.R_drewN | apply Kd.R_drew)); exact HO_5.out)); (case aS => exact (below_size (by repeat (first | (with_reducible first | exact HB.out | apply bal | apply bdn | apply bd1) | exact HB.out)))); (case aL => have := LMc15.out; omega); intro v188 w16 ho hb hg hat; rw [← Ny187.out] at ho; have n0_ := am (hb); have n1_ := am (ho); clear HB; clear HO_5; have HB := n0_; have HO189 := n1_; clear n0_ n1_; clear ho hb hg hat))
           go_roundg kj3
           case measure => have := HK1.out; have := HJ3.out; omega
           case rel => exact ⟨(y187), (true), (wrap64 (x7_1 + 1)), (by first | rfl | (simp; done) | (simp [*]; done)), (by first | rfl | (simp; done) | (simp [*]; done)), H', ⟨by have := HK1.out; have := HJ3.out; omega⟩, ⟨by (with_reducible repeat (first | apply Kd.R_alloc | apply Kd.R_drewN | apply Kd.R_drew)); exact HO189.out⟩, ⟨by repeat (first | (with_reducible first | exact HB.out | apply bal | apply bdn | apply bd1) | exact HB.out)⟩⟩
          ·rw [if_neg c15] at H
           exact absurd H (by simp)
        ·rw [if_neg c9] at H
         exact absurd H (by simp)
       ·rw [if_neg c8] at H
        exact absurd H (by simp)
      ·replace c7 := Bool.eq_false_iff.mpr c7
       subst c7
       have H1 : (if 0 ≤ x7_1 then (if x7_1 < (l0.length : Int) then (if x5_1.length < 17592186044416 then (r02_insert.l0 kj3 l0 a1 (x5_1 ++ [rd l0 x7_1]) x6_1 (wrap64 (x7_1 + 1))) else (none)) else (none)) else (none)) = some r := by rw [if_neg (show ¬ (false = true) by decide)] at H; exact H
       clear H
       have H := H1
       clear H1
       by_cases c17 : 0 ≤ x7_1
       ·rw [if_pos c17] at H
        have c17b0 : decide (0 ≤ x7_1) = true := decide_eq_true c17
        clear c17
        by_cases c18 : x7_1 < (l0.length : Int)
        ·rw [if_pos c18] at H
         have c18b0 : decide (x7_1 < (l0.length : Int)) = true := decide_eq_true c18
         clear c18
         by_cases c19 : x5_1.length < 17592186044416
         ·rw [if_pos c19] at H
          have LMc19 := am c19
          clear c19
          obtain ⟨y191, hy191⟩ : ∃ y_ : List Int, y_ = (x5_1 ++ [rd l0 x7_1]) := ⟨_, rfl⟩
          replace H : (r02_insert.l0 kj3 l0 a1 y191 x6_1 (wrap64 (x7_1 + 1))) = some r := by first | (rw [hy191]; with_reducible exact H) | (have H2_ := (Option.bind_some _ _).symm.trans H; rw [hy191]; with_reducible exact H2_) | (have H2_ := (Option.bind_some _ _).symm.trans H; with_reducible exact H2_) | with_reducible exact H | (rw [hy191]; exact H) | exact H
          have Ny191 := am hy191
          clear hy191
          have H' := am H
          clear H
          have p190 : 0 ≤ (x7_1 : Int) := of_decide_eq_true (by first | (with_reducible assumption) | assumption)
          have q190 : x7_1 < (l0.length : Int) := of_decide_eq_true (by first | (with_reducible assumption) | assumption)
          obtain ⟨ad190, e190, hx190_0⟩ := Kd.at_int HR0.out x7_1 p190 q190
          cases e190
          replace hx190_0 := (HB.out.cell (World.block_lt_of_cell? w _ hx190_0)).trans hx190_0
          replace p190 := eq_true p190
          replace q190 := eq_true q190
          go_wp2_with (first | ((with_reducible refine gate_builtin (b := .append) (xs := #[.tmp 34, .tmp 39]) rfl ?_); at_builtin; refine Kd.R_append (Kd.int .i64) (w0 := w) w.heap.size rfl (.tmp 34) (.tmp 39) 96 2 (.int .i64 0) 8 rfl Tryd.underlying96 info2 rfl (by decide) (by omega) u5 x5_1 (rd l0 x7_1) [.int .i64 (rd l0 x7_1)] (fun _ => True) (fun _ => False) rfl rfl ?aP (fun _ hk => hk.elim) ?aF ?aO ?aB ?aS ?aL ?_; (case aP => exact rfl); (case aB => exact (by repeat (first | (with_reducible first | exact HB.out | apply bal | apply bdn | apply bd1) | exact HB.out))); (case aF => exact (fun _ _ => trivial)); (case aO => exact (by (with_reducible repeat (first | apply Kd.R_alloc | apply Kd.R_drewN | apply Kd.R_drew)); exact HO_5.out)); (case aS => exact (below_size (by repeat (first | (with_reducible first | exact HB.out | apply bal | apply bdn | apply bd1) | exact HB.out)))); (case aL => have := LMc19.out; omega); intro v192 w20 ho hb hg hat; rw [← Ny191.out] at ho; have n0_ := am (hb); have n1_ := am (ho); clear HB; clear HO_5; have HB := n0_; have HO193 := n1_; clear n0_ n1_; clear ho hb hg hat))
          go_roundg kj3
          case measure => have := HK1.out; have := HJ3.out; omega
          case rel => exact ⟨(y191), (x6_1), (wrap64 (x7_1 + 1)), (by first | rfl | (simp; done) | (simp [*]; done)), (by first | rfl | (simp; done) | (simp [*]; done)), H', ⟨by have := HK1.out; have := HJ3.out; omega⟩, ⟨by (with_reducible repeat (first | apply Kd.R_alloc | apply Kd.R_drewN | apply Kd.R_drew)); exact HO193.out⟩, ⟨by repeat (first | (with_reducible first | exact HB.out | apply bal | apply bdn | apply bd1) | exact HB.out)⟩⟩
         ·rw [if_neg c19] at H
          exact absurd H (by simp)
        ·rw [if_neg c18] at H
         exact absurd H (by simp)
       ·rw [if_neg c17] at H
        exact absurd H (by simp)
   ·rw [if_neg c3] at H
    have c3b0 : decide (x7_1 < (l0.length : Int)) = false := decide_eq_false c3
    clear c3
    by_cases c21 : x6_1 = true
    ·subst c21
     have H1 : (some x5_1) = some r := by rw [if_pos rfl] at H; exact H
     clear H
     have H := H1
     clear H1
     obtain rfl := Option.some.inj H
     go_wp2
     go_ret
     exact ⟨_, by first | rfl | (simp [errW_none, errW_some] <;> rfl) | (simp [*, errW_none, errW_some] <;> rfl), by (with_reducible repeat (first | apply Kd.R_alloc | apply Kd.R_drewN | apply Kd.R_drew)); exact HO_5.out, by repeat (first | (with_reducible first | exact HB.out | apply bal | apply bdn | apply bd1) | exact HB.out)⟩
    ·replace c21 := Bool.eq_false_iff.mpr c21
     subst c21
     have H1 : (if x5_1.length < 17592186044416 then (some (x5_1 ++ [a1])) else (none)) = some r := by rw [if_neg (show ¬ (false = true) by decide)] at H; exact H
     clear H
     have H := H1
     clear H1
     by_cases c22 : x5_1.length < 17592186044416
     ·rw [if_pos c22] at H
      have LMc22 := am c22
      clear c22
      obtain ⟨y174, hy174⟩ : ∃ y_ : List Int, y_ = (x5_1 ++ [a1]) := ⟨_, rfl⟩
      replace H : (some y174) = some r := by first | (rw [hy174]; with_reducible exact H) | (have H2_ := (Option.bind_some _ _).symm.trans H; rw [hy174]; with_reducible exact H2_) | (have H2_ := (Option.bind_some _ _).symm.trans H; with_reducible exact H2_) | with_reducible exact H | (rw [hy174]; exact H) | exact H
      have Ny174 := am hy174
      clear hy174
      obtain rfl := Option.some.inj H
      go_wp2_with (first | ((with_reducible refine gate_builtin (b := .append) (xs := #[.tmp 43, .tmp 45]) rfl ?_); at_builtin; refine Kd.R_append (Kd.int .i64) (w0 := w) w.heap.size rfl (.tmp 43) (.tmp 45) 96 2 (.int .i64 0) 8 rfl Tryd.underlying96 info2 rfl (by decide) (by omega) u5 x5_1 a1 [.int .i64 a1] (fun _ => True) (fun _ => False) rfl rfl ?aP (fun _ hk => hk.elim) ?aF ?aO ?aB ?aS ?aL ?_; (case aP => exact rfl); (case aB => exact (by repeat (first | (with_reducible first | exact HB.out | apply bal | apply bdn | apply bd1) | exact HB.out))); (case aF => exact (fun _ _ => trivial)); (case aO => exact (by (with_reducible repeat (first | apply Kd.R_alloc | apply Kd.R_drewN | apply Kd.R_drew)); exact HO_5.out)); (case aS => exact (below_size (by repeat (first | (with_reducible first | exact HB.out | apply bal | apply bdn | apply bd1) | exact HB.out)))); (case aL => have := LMc22.out; omega); intro v175 w23 ho hb hg hat; rw [← Ny174.out] at ho; have n0_ := am (hb); have n1_ := am (ho); clear HB; clear HO_5; have HB := n0_; have HO176 := n1_; clear n0_ n1_; clear ho hb hg hat))
      go_ret
      exact ⟨_, by first | rfl | (simp [errW_none, errW_some] <;> rfl) | (simp [*, errW_none, errW_some] <;> rfl), by (with_reducible repeat (first | apply Kd.R_alloc | apply Kd.R_drewN | apply Kd.R_drew)); exact HO176.out, by repeat (first | (with_reducible first | exact HB.out | apply bal | apply bdn | apply bd1) | exact HB.out)⟩
     ·rw [if_neg c22] at H
      exact absurd H (by simp)

/-! ### r02_ends: function 66 -/
def r02_ends.l0 : Nat → List Int → List (S42) → Int → Option (List Int)
 | 0, _, _, _ => none
 | k + 1, x5, x6, x7 => if x7 < (x6.length : Int) then (if 0 ≤ x7 then ((r01_Right.f ((rd_T42 x6 x7).f0) ((rd_T42 x6 x7).f1)).bind fun t204 => (if t204 = true then ((r02_insert.f k x5 ((rd_T42 x6 x7).f0)).bind fun t206 => ((r02_insert.f k t206 ((rd_T42 x6 x7).f1)).bind fun t210 => (r02_ends.l0 k t210 x6 (wrap64 (x7 + 1))))) else (r02_ends.l0 k x5 x6 (wrap64 (x7 + 1))))) else (none)) else (some x5)
def r02_ends.f (k : Nat) (l0 : List (S42)) (l1 : List (S42)) : Option (List Int) := (some (([] : List (S42)) : List (S42))).bind fun y194 => (if y194.length + l0.length < 8796093022208 then ((some (y194 ++ l0 : List (S42))).bind fun y197 => (if y197.length + l1.length < 8796093022208 then (r02_ends.l0 k ([] : List Int) (y197 ++ l1) 0) else (none))) else (none))
theorem r02_ends.mono_l : ∀ k, (∀ y0 y1 y2, LeO (r02_ends.l0 k y0 y1 y2) (r02_ends.l0 (k + 1) y0 y1 y2))
 | 0 => fun _ _ _ r h => by simp [r02_ends.l0] at h
 | k + 1 => by
  have ih0 := r02_ends.mono_l k
  ·intro y0 y1 y2
   unfold r02_ends.l0
   repeat' first
   | (with_reducible exact ih0 _ _ _)
   | (with_reducible exact r02_insert.mono _ _ _)
   | (with_reducible exact LeO.refl _)
   | (with_reducible exact LeO.none _)
   | (with_reducible refine LeO.ite ?_ ?_)
   | (with_reducible refine LeO.bind ?_ (fun _ => ?_))
   | exact ih0 _ _ _
   | exact r02_insert.mono _ _ _
   | exact LeO.none _
   | refine LeO.ite ?_ ?_
   | refine LeO.bind ?_ (fun _ => ?_)
theorem r02_ends.mono : ∀ a0 a1 k, LeO (r02_ends.f k a0 a1) (r02_ends.f (k + 1) a0 a1) := by
 intro a0 a1 k
 have ih0 := r02_ends.mono_l k
 unfold r02_ends.f
 repeat' first
   | (with_reducible exact ih0 _ _ _)
   | (with_reducible exact r02_insert.mono _ _ _)
   | (with_reducible exact LeO.refl _)
   | (with_reducible exact LeO.none _)
   | (with_reducible refine LeO.ite ?_ ?_)
   | (with_reducible refine LeO.bind ?_ (fun _ => ?_))
   | exact ih0 _ _ _
   | exact r02_insert.mono _ _ _
   | exact LeO.none _
   | refine LeO.ite ?_ ?_
   | refine LeO.bind ?_ (fun _ => ?_)
def r02_ends.T7 : Bool × List (List Nat × List Nat) := (true, [([], []), ([], []), ([], []), ([1, 2], [1, 2]), ([3], [3]), ([4], [4]), ([0, 5], [0, 5]), ([], []), ([], []), ([7, 8], [7, 8]), ([9], [9]), ([10], [10]), ([6, 11, 6], [6, 11]), ([12, 12, 0, 1, 2, 3, 4, 5, 6, 7, 8, 9, 10, 11, 12], [0, 12])])
def r02_ends.B7 : List Nat := [0, 0, 0, 6, 14, 30, 63, 0, 0, 384, 896, 1920, 4095, 8191]
theorem r02_ends.tab7 : rtab .any (opsOf Tryd.f66 7) = r02_ends.T7 := by kernel_rfl
theorem r02_ends.bits7 : waitsOk r02_ends.T7.2 r02_ends.B7 = true := by kernel_rfl
set_option maxHeartbeats 8000000 in
set_option maxRecDepth 100000 in
theorem r02_ends.calls (k : Nat) (A0 : Option Addr) (c0 : Nat) (l0 : List (S42)) (A1 : Option Addr) (c1 : Nat) (l1 : List (S42)) (r : List Int) (w : World) (hr0 : Kd.C k42 w A0 l0.length l0) (hc0 : l0.length ≤ c0) (hr1 : Kd.C k42 w A1 l1.length l1) (hc1 : l1.length ≤ c1) (h : r02_ends.f k l0 l1 = some r) :
  Calls Tryd.prog 66 #[.slice A0 l0.length c0, .slice A1 l1.length c1] w fun e w' => ∃ v0_ : Value, e = .returned (v0_) ∧ Kd.R (Kd.int .i64) 2 w' w.heap.size (fun _ => True) v0_ r ∧ Below w.heap.size w w' := by
 have hu42 := Tryd.underlying42
 have HR0 := am hr0
 have HC0 := am hc0
 clear hr0 hc0
 have HR1 := am hr1
 have HC1 := am hc1
 clear hr1 hc1
 have HB := am (Below.refl w.heap.size w)
 have H : ((some (([] : List (S42)) : List (S42))).bind fun y194 => (if y194.length + l0.length < 8796093022208 then ((some (y194 ++ l0 : List (S42))).bind fun y197 => (if y197.length + l1.length < 8796093022208 then (r02_ends.l0 k ([] : List Int) (y197 ++ l1) 0) else (none))) else (none))) = some r := h
 clear h
 obtain ⟨y194, hy194⟩ : ∃ y_ : List (S42), y_ = (([] : List (S42))) := ⟨_, rfl⟩
 replace H : (if y194.length + l0.length < 8796093022208 then ((some (y194 ++ l0 : List (S42))).bind fun y197 => (if y197.length + l1.length < 8796093022208 then (r02_ends.l0 k ([] : List Int) (y197 ++ l1) 0) else (none))) else (none)) = some r := by first | (rw [hy194]; with_reducible exact H) | (have H2_ := (Option.bind_some _ _).symm.trans H; rw [hy194]; with_reducible exact H2_) | (have H2_ := (Option.bind_some _ _).symm.trans H; with_reducible exact H2_) | with_reducible exact H | (rw [hy194]; exact H) | exact H
 have Ny194 := am hy194
 clear hy194
 by_cases c3 : y194.length + l0.length < 8796093022208
 ·rw [if_pos c3] at H
  have LMc3 := am c3
  clear c3
  obtain ⟨y197, hy197⟩ : ∃ y_ : List (S42), y_ = (y194 ++ l0) := ⟨_, rfl⟩
  replace H : (if y197.length + l1.length < 8796093022208 then (r02_ends.l0 k ([] : List Int) (y197 ++ l1) 0) else (none)) = some r := by first | (rw [hy197]; with_reducible exact H) | (have H2_ := (Option.bind_some _ _).symm.trans H; rw [hy197]; with_reducible exact H2_) | (have H2_ := (Option.bind_some _ _).symm.trans H; with_reducible exact H2_) | with_reducible exact H | (rw [hy197]; exact H) | exact H
  have Ny197 := am hy197
  clear hy197
  by_cases c4 : y197.length + l1.length < 8796093022208
  ·rw [if_pos c4] at H
   have LMc4 := am c4
   clear c4
   obtain ⟨y200, hy200⟩ : ∃ y_ : List (S42), y_ = (y197 ++ l1) := ⟨_, rfl⟩
   replace H : (r02_ends.l0 k ([] : List Int) y200 0) = some r := by first | (rw [hy200]; with_reducible exact H) | (have H2_ := (Option.bind_some _ _).symm.trans H; rw [hy200]; with_reducible exact H2_) | (have H2_ := (Option.bind_some _ _).symm.trans H; with_reducible exact H2_) | with_reducible exact H | (rw [hy200]; exact H) | exact H
   have Ny200 := am hy200
   clear hy200
   have H' := am H
   clear H
   go_enter Tryd.func66, Tryd.ntmps66
   go_wp2_with (first | ((with_reducible refine gate_dst (N := 8) rfl ?_); refine Kd.R_lit k42 _ 42 ?hg (N := 8) ?hd (xs := ([] : List (S42))) (inner := []) (ok := fun _ => True) (okp := fun _ => True) ?hr ?hp (fun _ hk => hk) trivial (Below.refl _ _) (Nat.le_refl _) (by simp) ?_; (case hd => rfl); (case hg => rfl); (case hr => first | (go_simp; done) | (go_simp; rfl)); (case hp => exact (Reps.none _ _)); intro v195 w5 ho6 hb hg_ hnew_; clear hg_ hnew_; (first | rw [← Ny194.out] at ho6 | (simp only [Int.reduceToNat] at ho6; rw [← Ny194.out] at ho6)); have n0_ := am (Kd.R_lower ho6 (below_size (by repeat (first | (with_reducible first | exact HB.out | apply bal | apply bdn | apply bd1) | exact HB.out)))); have n1_ := am (below_step (by repeat (first | (with_reducible first | exact HB.out | apply bal | apply bdn | apply bd1) | exact HB.out)) hb); clear HB; have HO196 := n0_; have HB := n1_; clear n0_ n1_; clear hb ho6) | ((with_reducible refine gate_builtin (b := .append) (xs := #[.tmp 8, .tmp 9]) rfl ?_); at_builtin; refine Kd.R_append_rows k42 (w0 := w) w.heap.size rfl (.tmp 8) (.tmp 9) 22 42 (.agg #[(.int .i64 0), (.int .i64 0)]) 16 rfl Tryd.underlying22 info42 rfl (by decide) (by omega) v195 y194 l0 _ _ _ (fun _ => True) (fun _ => False) rfl rfl ?aO ?aR (fun _ _ h => h) (fun _ h => h.elim) ?aF ?aB ?aS ?aL ?_; (case aR => repeat (first | exact (Kd.C_below HR0.out HB.out) | (with_reducible refine Kd.C_alloc ?_ _) | (with_reducible refine Kd.C_drewN ?_ _) | (with_reducible refine Kd.C_drew ?_))); (case aB => exact (by repeat (first | (with_reducible first | exact HB.out | apply bal | apply bdn | apply bd1) | exact HB.out))); (case aF => exact (fun _ _ => trivial)); (case aO => exact (by (with_reducible repeat (first | apply Kd.R_alloc | apply Kd.R_drewN | apply Kd.R_drew)); exact HO196.out)); (case aS => exact (below_size (by repeat (first | (with_reducible first | exact HB.out | apply bal | apply bdn | apply bd1) | exact HB.out)))); (case aL => have := LMc3.out; omega); intro v198 w7 ho hb hg hat; rw [← Ny197.out] at ho; have n0_ := am (hb); have n1_ := am (ho); clear HB; clear HO196; have HB := n0_; have HO199 := n1_; clear n0_ n1_; clear ho hb hg hat) | ((with_reducible refine gate_builtin (b := .append) (xs := #[.tmp 10, .tmp 11]) rfl ?_); at_builtin; refine Kd.R_append_rows k42 (w0 := w) w.heap.size rfl (.tmp 10) (.tmp 11) 22 42 (.agg #[(.int .i64 0), (.int .i64 0)]) 16 rfl Tryd.underlying22 info42 rfl (by decide) (by omega) v198 y197 l1 _ _ _ (fun _ => True) (fun _ => False) rfl rfl ?aO ?aR (fun _ _ h => h) (fun _ h => h.elim) ?aF ?aB ?aS ?aL ?_; (case aR => repeat (first | exact (Kd.C_below HR1.out HB.out) | (with_reducible refine Kd.C_alloc ?_ _) | (with_reducible refine Kd.C_drewN ?_ _) | (with_reducible refine Kd.C_drew ?_))); (case aB => exact (by repeat (first | (with_reducible first | exact HB.out | apply bal | apply bdn | apply bd1) | exact HB.out))); (case aF => exact (fun _ _ => trivial)); (case aO => exact (by (with_reducible repeat (first | apply Kd.R_alloc | apply Kd.R_drewN | apply Kd.R_drew)); exact HO199.out)); (case aS => exact (below_size (by repeat (first | (with_reducible first | exact HB.out | apply bal | apply bdn | apply bd1) | exact HB.out)))); (case aL => have := LMc4.out; omega); intro v201 w8 ho hb hg hat; rw [← Ny200.out] at ho; have n0_ := am (hb); have n1_ := am (ho); clear HB; clear HO199; have HB := n0_; have HO202 := n1_; clear n0_ n1_; clear ho hb hg hat))
   go_loopg [5, 7] k (fun kq v5 v7 w' => ∃ (x5_1 : List Int) (x7_1 : Int), v7 = .int .i64 x7_1 ∧ Aside0 (r02_ends.l0 kq x5_1 y200 x7_1 = some r) ∧ Aside0 (kq ≤ k) ∧ Aside0 (Kd.R (Kd.int .i64) 2 w' w.heap.size (fun _ => True) v5 x5_1) ∧ Aside0 (Kd.R k42 42 w' w.heap.size (fun _ => True) v201 y200) ∧ Aside0 (Below w.heap.size w w'))
   case atStart => exact ⟨(([] : List Int)), (0), (by first | rfl | (simp; done) | (simp [*]; done)), H', ⟨Nat.le_refl _⟩, ⟨by first | exact Kd.R_nil _ _ _ _ _ | exact Kd.N_nil _ _ _ _ _ | exact Kd.V_nil _ _ _ _ _ | exact Kd.Q_nil _ _ _ _ _ | exact Kd.S_nil _ _ _ _ _⟩, ⟨by (with_reducible repeat (first | apply Kd.R_alloc | apply Kd.R_drewN | apply Kd.R_drew)); exact HO202.out⟩, ⟨by repeat (first | (with_reducible first | exact HB.out | apply bal | apply bdn | apply bd1) | exact HB.out)⟩⟩
   case round =>
    clear H'
    try clear c1
    try clear p2
    try clear c3
    try clear c4
    try clear c6
    obtain ⟨x5_1, x7_1, rfl, HA, HK1, HO_5, HO_6, HB⟩ := hrel
    cases gk with
    | zero => exact absurd HA.out (by simp [r02_ends.l0])
    | succ k1 =>
     have H := HA.out
     clear HA
     simp only [r02_ends.l0] at H
     by_cases c9 : x7_1 < (y200.length : Int)
     ·rw [if_pos c9] at H
      have c9b0 : decide (x7_1 < (y200.length : Int)) = true := decide_eq_true c9
      clear c9
      by_cases c10 : 0 ≤ x7_1
      ·rw [if_pos c10] at H
       have c10b0 : decide (0 ≤ x7_1) = true := decide_eq_true c10
       clear c10
       replace H := Option.bind_eq_some_iff.mp H
       obtain ⟨t204, A110, H⟩ := H
       replace H : (if t204 = true then ((r02_insert.f k1 x5_1 ((rd_T42 y200 x7_1).f0)).bind fun t206 => ((r02_insert.f k1 t206 ((rd_T42 y200 x7_1).f1)).bind fun t210 => (r02_ends.l0 k1 t210 y200 (wrap64 (x7_1 + 1))))) else (r02_ends.l0 k1 x5_1 y200 (wrap64 (x7_1 + 1)))) = some r := H
       have A11 := am A110
       clear A110
       by_cases c12 : t204 = true
       ·subst c12
        have H1 : ((r02_insert.f k1 x5_1 ((rd_T42 y200 x7_1).f0)).bind fun t206 => ((r02_insert.f k1 t206 ((rd_T42 y200 x7_1).f1)).bind fun t210 => (r02_ends.l0 k1 t210 y200 (wrap64 (x7_1 + 1))))) = some r := by rw [if_pos rfl] at H; exact H
        clear H
        have H := H1
        clear H1
        replace H := Option.bind_eq_some_iff.mp H
        obtain ⟨t206, A130, H⟩ := H
        replace H : ((r02_insert.f k1 t206 ((rd_T42 y200 x7_1).f1)).bind fun t210 => (r02_ends.l0 k1 t210 y200 (wrap64 (x7_1 + 1)))) = some r := H
        have A13 := am A130
        clear A130
        replace H := Option.bind_eq_some_iff.mp H
        obtain ⟨t210, A140, H⟩ := H
        replace H : (r02_ends.l0 k1 t210 y200 (wrap64 (x7_1 + 1))) = some r := H
        have A14 := am A140
        clear A140
        have H' := am H
        clear H
        obtain ⟨Ao15, co15, eo15⟩ := Kd.R_slice HO_6.out
        subst eo15
        have p203 : 0 ≤ (x7_1 : Int) := of_decide_eq_true (by first | (with_reducible assumption) | assumption)
        have q203 : x7_1 < (y200.length : Int) := of_decide_eq_true (by first | (with_reducible assumption) | assumption)
        obtain ⟨ad203, e203, hx203_0, hx203_1⟩ := at_T42 (Kd.R_reads' HO_6.out).2.2 x7_1 p203 q203
        cases e203
        replace p203 := eq_true p203
        replace q203 := eq_true q203
        try go_wp2_with (first | ((with_reducible refine gate_callee (f := 51) rfl ?_); refine goesL_ (some 23) rfl rfl Tryd.func51 (by kernel_rfl) rfl #[.agg #[.int .i64 ((rd_T42 y200 x7_1).f0), .int .i64 ((rd_T42 y200 x7_1).f1)]] rfl (by (try simp only [List.map_toArray, List.map_cons, List.map_nil]); first | done | rfl | (simp only [List.length_drop, List.length_take]; rfl)) ?_; (with_reducible refine (r01_Right.calls ((rd_T42 y200 x7_1).f0) ((rd_T42 y200 x7_1).f1) true _ A11.out).mono ?_); rintro e w16 ⟨rfl, hb⟩; refine ⟨_, rfl, ?_⟩; have n0_ := am (Kd.R_below (by (with_reducible repeat (first | apply Kd.R_alloc | apply Kd.R_drewN | apply Kd.R_drew)); exact HO_5.out) hb); have n1_ := am (Kd.R_below (by (with_reducible repeat (first | apply Kd.R_alloc | apply Kd.R_drewN | apply Kd.R_drew)); exact HO_6.out) hb); have n2_ := am (below_step (by repeat (first | (with_reducible first | exact HB.out | apply bal | apply bdn | apply bd1) | exact HB.out)) hb); clear HO_5; clear HO_6; clear HB; have HO_5 := n0_; have HO_6 := n1_; have HB := n2_; clear n0_ n1_ n2_; (try clear hb); (try clear hb2); (try clear hk); (try clear hi)))
        have n0_ := am (Kd.R_drew HO_5.out)
        have n1_ := am (Kd.R_drew HO_6.out)
        have n2_ := am (bd1 HB.out)
        clear HO_5
        clear HO_6
        clear HB
        have HO_5 := n0_
        have HO_6 := n1_
        have HB := n2_
        clear n0_ n1_ n2_
        have p205 : 0 ≤ (x7_1 : Int) := of_decide_eq_true (by first | (with_reducible assumption) | assumption)
        have q205 : x7_1 < (y200.length : Int) := of_decide_eq_true (by first | (with_reducible assumption) | assumption)
        obtain ⟨ad205, e205, hx205_0, hx205_1⟩ := at_T42 (Kd.R_reads' HO_6.out).2.2 x7_1 p205 q205
        obtain rfl : ad203 = ad205 := (by injection e205)
        replace p205 := eq_true p205
        replace q205 := eq_true q205
        have p209 : 0 ≤ (x7_1 : Int) := of_decide_eq_true (by first | (with_reducible assumption) | assumption)
        have q209 : x7_1 < (y200.length : Int) := of_decide_eq_true (by first | (with_reducible assumption) | assumption)
        obtain ⟨ad209, e209, hx209_0, hx209_1⟩ := at_T42 (Kd.R_reads' HO_6.out).2.2 x7_1 p209 q209
        obtain rfl : ad203 = ad209 := (by injection e209)
        replace p209 := eq_true p209
        replace q209 := eq_true q209
        obtain ⟨Ao18, co18, eo18⟩ := Kd.R_slice HO_5.out
        (first | subst eo18 | (injection eo18 with f1_ f2_ f3_; have f4_ := f1_.symm; have f5_ := f3_.symm; clear f1_ f2_ f3_; subst f4_; subst f5_))
        refine start_ (n := 14) (S := fun w' => w'.cell? (ad203.add ((x7_1).toNat * 2)) = some (.int .i64 ((rd_T42 y200 x7_1).f0)) ∧ w'.cell? ⟨(ad203.add ((x7_1).toNat * 2)).block, (ad203.add ((x7_1).toNat * 2)).off + 1, none⟩ = some (.int .i64 ((rd_T42 y200 x7_1).f1)) ∧ w'.cell? (ad203.add ((x7_1).toNat * 2)) = some (.int .i64 ((rd_T42 y200 x7_1).f0)) ∧ w'.cell? ⟨(ad203.add ((x7_1).toNat * 2)).block, (ad203.add ((x7_1).toNat * 2)).off + 1, none⟩ = some (.int .i64 ((rd_T42 y200 x7_1).f1))) (ds := []) #[false, false, false, false, false, false, false, false, false, false, false, false, false, false] (by kernel_rfl) rfl rfl ⟨hx205_0, hx205_1, hx209_0, hx209_1⟩ (fun hHeld => ?_); refine with_tabW r02_ends.tab7 r02_ends.bits7 (fun HT_ HW_ => ?_)
        generalize w16.drew = w17 at HO_5 HO_6 HB hx205_0 hx205_1 hx209_0 hx209_1 hHeld ⊢
        refine pure_ (i := 0) (N := some 24) (v := ?_) (a' := ?_) #[true, false, false, false, false, false, false, false, false, false, false, false, false, false] rfl rfl (any_of HT_.out (by kernel_rfl)) (fun _ _ _ h => h) (Or.inl ⟨by rfl, ?_⟩) ?_ ?_
        rotate_left
        ·intro w'
         go_simp
         with_reducible rfl
        rotate_left
        ·simp only [Act.put, sb1, sb2, sb3, i64_w, i32_w]
         rfl
        refine pure_ (i := 1) (N := some 25) (v := ?_) (a' := ?_) #[true, true, false, false, false, false, false, false, false, false, false, false, false, false] rfl rfl (any_of HT_.out (by kernel_rfl)) (fun _ _ _ h => h) (Or.inl ⟨by rfl, ?_⟩) ?_ ?_
        rotate_left
        ·intro w'
         go_simp
         with_reducible rfl
        rotate_left
        ·simp only [Act.put, sb1, sb2, sb3, i64_w, i32_w]
         rfl
        refine pure_ (i := 2) (N := some 26) (v := ?_) (a' := ?_) #[true, true, true, false, false, false, false, false, false, false, false, false, false, false] rfl rfl (any_of HT_.out (by kernel_rfl)) (fun _ _ _ h => h) (Or.inl ⟨by rfl, ?_⟩) ?_ ?_
        rotate_left
        ·intro w'
         go_simp
         with_reducible rfl
        rotate_left
        ·simp only [Act.put, sb1, sb2, sb3, i64_w, i32_w]
         rfl
        refine pure_ (i := 3) (N := some 27) (v := ?_) (a' := ?_) #[true, true, true, true, false, false, false, false, false, false, false, false, false, false] rfl rfl (any_of HT_.out (by kernel_rfl)) (fun _ _ _ h => h) (Or.inl ⟨by rfl, ?_⟩) ?_ ?_
        rotate_left
        ·intro w'
         go_simp
         with_reducible rfl
        rotate_left
        ·simp only [Act.put, sb1, sb2, sb3, i64_w, i32_w]
         rfl
        refine pure_ (i := 4) (N := some 28) (v := ?_) (a' := ?_) #[true, true, true, true, true, false, false, false, false, false, false, false, false, false] rfl rfl (any_of HT_.out (by kernel_rfl)) (fun _ _ _ h => h) (Or.inl ⟨by rfl, ?_⟩) ?_ ?_
        rotate_left
        ·intro w'
         go_simp
         with_reducible rfl
        rotate_left
        ·simp only [Act.put, sb1, sb2, sb3, i64_w, i32_w]
         rfl
        refine pure_ (i := 7) (N := some 31) (v := ?_) (a' := ?_) #[true, true, true, true, true, false, false, true, false, false, false, false, false, false] rfl rfl (any_of HT_.out (by kernel_rfl)) (fun _ _ _ h => h) (Or.inl ⟨by rfl, ?_⟩) ?_ ?_
        rotate_left
        ·intro w'
         go_simp
         with_reducible rfl
        rotate_left
        ·simp only [Act.put, sb1, sb2, sb3, i64_w, i32_w]
         rfl
        refine pure_ (i := 8) (N := some 32) (v := ?_) (a' := ?_) #[true, true, true, true, true, false, false, true, true, false, false, false, false, false] rfl rfl (any_of HT_.out (by kernel_rfl)) (fun _ _ _ h => h) (Or.inl ⟨by rfl, ?_⟩) ?_ ?_
        rotate_left
        ·intro w'
         go_simp
         with_reducible rfl
        rotate_left
        ·simp only [Act.put, sb1, sb2, sb3, i64_w, i32_w]
         rfl
        refine pure_ (i := 9) (N := some 33) (v := ?_) (a' := ?_) #[true, true, true, true, true, false, false, true, true, true, false, false, false, false] rfl rfl (any_of HT_.out (by kernel_rfl)) (fun _ _ _ h => h) (Or.inl ⟨by rfl, ?_⟩) ?_ ?_
        rotate_left
        ·intro w'
         go_simp
         with_reducible rfl
        rotate_left
        ·simp only [Act.put, sb1, sb2, sb3, i64_w, i32_w]
         rfl
        refine pure_ (i := 10) (N := some 34) (v := ?_) (a' := ?_) #[true, true, true, true, true, false, false, true, true, true, true, false, false, false] rfl rfl (any_of HT_.out (by kernel_rfl)) (fun _ _ _ h => h) (Or.inl ⟨by rfl, ?_⟩) ?_ ?_
        rotate_left
        ·intro w'
         go_simp
         with_reducible rfl
        rotate_left
        ·simp only [Act.put, sb1, sb2, sb3, i64_w, i32_w]
         rfl
        refine take_ (i := 5) (N := some 29) (v := ?_) (a' := ?_) #[true, true, true, true, true, true, false, true, true, true, true, false, false, false] rfl rfl (take_ofW HT_.out HW_.out (by kernel_rfl)) (fun _ _ _ h => h) (Or.inl ⟨by rfl, ?_⟩) hHeld ?_ ?_
        rotate_left
        ·rintro w' ⟨s0, s1, s2, s3⟩
         go_simp
         with_reducible rfl
        rotate_left
        ·simp only [Act.put, sb1, sb2, sb3, i64_w, i32_w]
         rfl
        refine take_ (i := 11) (N := some 35) (v := ?_) (a' := ?_) #[true, true, true, true, true, true, false, true, true, true, true, true, false, false] rfl rfl (take_ofW HT_.out HW_.out (by kernel_rfl)) (fun _ _ _ h => h) (Or.inl ⟨by rfl, ?_⟩) hHeld ?_ ?_
        rotate_left
        ·rintro w' ⟨s0, s1, s2, s3⟩
         go_simp
         with_reducible rfl
        rotate_left
        ·simp only [Act.put, sb1, sb2, sb3, i64_w, i32_w]
         rfl
        refine one_ (i := 6) (N := some 30) #[true, true, true, true, true, true, true, true, true, true, true, true, false, false] rfl rfl (one_of HT_.out (by kernel_rfl)) (by decide) (fun K hK => ?_)
        refine goes_ Tryd.func80 (by kernel_rfl) rfl #[.slice Ao18 x5_1.length co18, .int .i64 ((rd_T42 y200 x7_1).f0)] (by rfl) rfl rfl (by (try simp only [List.map_toArray, List.map_cons, List.map_nil]); first | done | rfl | (simp only [List.length_drop, List.length_take]; rfl)) ?_
        with_reducible refine (r02_insert.calls k1 _ _ x5_1 ((rd_T42 y200 x7_1).f0) t206 _ ?side1 ?side2 A13.out).mono ?_
        (case side1 => repeat (first | exact (Kd.R_reads' HO_5.out).2.2 | (with_reducible refine Kd.C_alloc ?_ _) | (with_reducible refine Kd.C_drewN ?_ _) | (with_reducible refine Kd.C_drew ?_)))
        (case side2 => exact (Kd.R_reads' HO_5.out).2.1)
        rintro e w19 ⟨v207, rfl, ho0, hb⟩
        have HS0_ := (hb.cell (World.block_lt_of_cell? _ _ (hHeld.1))).trans (hHeld.1)
        have HS1_ := (hb.cell (World.block_lt_of_cell? _ _ (hHeld.2.1))).trans (hHeld.2.1)
        have HS2_ := (hb.cell (World.block_lt_of_cell? _ _ (hHeld.2.2.1))).trans (hHeld.2.2.1)
        have HS3_ := (hb.cell (World.block_lt_of_cell? _ _ (hHeld.2.2.2))).trans (hHeld.2.2.2)
        refine ⟨_, rfl, ?_⟩
        have n0_ := am (Kd.R_elder' (by (with_reducible repeat (first | apply Kd.R_alloc | apply Kd.R_drewN | apply Kd.R_drew)); exact HO_5.out) (Kd.R_base ho0) hb)
        have n1_ := am (Kd.R_below (by (with_reducible repeat (first | apply Kd.R_alloc | apply Kd.R_drewN | apply Kd.R_drew)); exact HO_6.out) hb)
        have n2_ := am (Kd.R_lower (Kd.R_new' ho0 (Kd.R_lt (by (with_reducible repeat (first | apply Kd.R_alloc | apply Kd.R_drewN | apply Kd.R_drew)); exact HO_5.out))) (below_size (by repeat (first | (with_reducible first | exact HB.out | apply bal | apply bdn | apply bd1) | exact HB.out))))
        have n3_ := am (below_step (by repeat (first | (with_reducible first | exact HB.out | apply bal | apply bdn | apply bd1) | exact HB.out)) hb)
        clear HO_5
        clear HO_6
        clear HB
        have HO_5 := n0_
        have HO_6 := n1_
        have HO208 := n2_
        have HB := n3_
        clear n0_ n1_ n2_ n3_
        (try clear hb)
        (try clear hb2)
        (try clear hk)
        (try clear hi)
        (try clear ho0)
        obtain ⟨Ao20, co20, eo20⟩ := Kd.R_slice HO208.out
        (first | subst eo20 | (injection eo20 with f1_ f2_ f3_; have f4_ := f1_.symm; have f5_ := f3_.symm; clear f1_ f2_ f3_; subst f4_; subst f5_))
        refine hK.out _ _ ⟨HS0_, HS1_, HS2_, HS3_⟩ (fun hHeld => ?_)
        clear hK K
        refine norm_ (a' := ?_) ?_ ?_
        rotate_left
        ·show Act.put _ (some 30) _ = _
         simp only [Act.put, sb1, sb2, sb3, i64_w, i32_w]
         rfl
        refine one_ (i := 12) (N := some 36) #[true, true, true, true, true, true, true, true, true, true, true, true, true, false] rfl rfl (one_of HT_.out (by kernel_rfl)) (by decide) (fun K hK => ?_)
        refine goes_ Tryd.func80 (by kernel_rfl) rfl #[.slice Ao20 t206.length co20, .int .i64 ((rd_T42 y200 x7_1).f1)] (by rfl) rfl rfl (by (try simp only [List.map_toArray, List.map_cons, List.map_nil]); first | done | rfl | (simp only [List.length_drop, List.length_take]; rfl)) ?_
        with_reducible refine (r02_insert.calls k1 _ _ t206 ((rd_T42 y200 x7_1).f1) t210 _ ?side1 ?side2 A14.out).mono ?_
        (case side1 => repeat (first | exact (Kd.R_reads' HO208.out).2.2 | (with_reducible refine Kd.C_alloc ?_ _) | (with_reducible refine Kd.C_drewN ?_ _) | (with_reducible refine Kd.C_drew ?_)))
        (case side2 => exact (Kd.R_reads' HO208.out).2.1)
        rintro e w21 ⟨v211, rfl, ho0, hb⟩
        have HS0_ := (hb.cell (World.block_lt_of_cell? _ _ (hHeld.1))).trans (hHeld.1)
        have HS1_ := (hb.cell (World.block_lt_of_cell? _ _ (hHeld.2.1))).trans (hHeld.2.1)
        have HS2_ := (hb.cell (World.block_lt_of_cell? _ _ (hHeld.2.2.1))).trans (hHeld.2.2.1)
        have HS3_ := (hb.cell (World.block_lt_of_cell? _ _ (hHeld.2.2.2))).trans (hHeld.2.2.2)
        refine ⟨_, rfl, ?_⟩
        have n0_ := am (Kd.R_elder' (by (with_reducible repeat (first | apply Kd.R_alloc | apply Kd.R_drewN | apply Kd.R_drew)); exact HO_5.out) (Kd.R_base ho0) hb)
        have n1_ := am (Kd.R_below (by (with_reducible repeat (first | apply Kd.R_alloc | apply Kd.R_drewN | apply Kd.R_drew)); exact HO_6.out) hb)
        have n2_ := am (Kd.R_elder' (by (with_reducible repeat (first | apply Kd.R_alloc | apply Kd.R_drewN | apply Kd.R_drew)); exact HO208.out) (Kd.R_base ho0) hb)
        have n3_ := am (Kd.R_lower (Kd.R_new' (Kd.R_new' ho0 (Kd.R_lt (by (with_reducible repeat (first | apply Kd.R_alloc | apply Kd.R_drewN | apply Kd.R_drew)); exact HO_5.out))) (Kd.R_lt (by (with_reducible repeat (first | apply Kd.R_alloc | apply Kd.R_drewN | apply Kd.R_drew)); exact HO208.out))) (below_size (by repeat (first | (with_reducible first | exact HB.out | apply bal | apply bdn | apply bd1) | exact HB.out))))
        have n4_ := am (below_step (by repeat (first | (with_reducible first | exact HB.out | apply bal | apply bdn | apply bd1) | exact HB.out)) hb)
        clear HO_5
        clear HO_6
        clear HO208
        clear HB
        have HO_5 := n0_
        have HO_6 := n1_
        have HO208 := n2_
        have HO212 := n3_
        have HB := n4_
        clear n0_ n1_ n2_ n3_ n4_
        (try clear hb)
        (try clear hb2)
        (try clear hk)
        (try clear hi)
        (try clear ho0)
        refine hK.out _ _ ⟨HS0_, HS1_, HS2_, HS3_⟩ (fun hHeld => ?_)
        clear hK K
        refine norm_ (a' := ?_) ?_ ?_
        rotate_left
        ·show Act.put _ (some 36) _ = _
         simp only [Act.put, sb1, sb2, sb3, i64_w, i32_w]
         rfl
        refine pure_ (i := 13) (N := some 5) (v := ?_) (a' := ?_) #[true, true, true, true, true, true, true, true, true, true, true, true, true, true] rfl rfl (any_of HT_.out (by kernel_rfl)) (fun _ _ _ h => h) (Or.inl ⟨by rfl, ?_⟩) ?_ ?_
        rotate_left
        ·intro w'
         go_simp
         with_reducible rfl
        rotate_left
        ·simp only [Act.put, sb1, sb2, sb3, i64_w, i32_w]
         rfl
        refine done_ (done_of HT_.out (by kernel_rfl)) ?_
        try go_wp2
        go_roundg k1
        case measure => have := HK1.out; omega
        case rel => exact ⟨(t210), (wrap64 (x7_1 + 1)), (by first | rfl | (simp; done) | (simp [*]; done)), H', ⟨by have := HK1.out; omega⟩, ⟨by (with_reducible repeat (first | apply Kd.R_alloc | apply Kd.R_drewN | apply Kd.R_drew)); exact Kd.R_mono HO212.out (fun _ hk => trivial)⟩, ⟨by (with_reducible repeat (first | apply Kd.R_alloc | apply Kd.R_drewN | apply Kd.R_drew)); exact HO_6.out⟩, ⟨by repeat (first | (with_reducible first | exact HB.out | apply bal | apply bdn | apply bd1) | exact HB.out)⟩⟩
       ·replace c12 := Bool.eq_false_iff.mpr c12
        subst c12
        have H1 : (r02_ends.l0 k1 x5_1 y200 (wrap64 (x7_1 + 1))) = some r := by rw [if_neg (show ¬ (false = true) by decide)] at H; exact H
        clear H
        have H := H1
        clear H1
        have H' := am H
        clear H
        obtain ⟨Ao22, co22, eo22⟩ := Kd.R_slice HO_6.out
        subst eo22
        have p203 : 0 ≤ (x7_1 : Int) := of_decide_eq_true (by first | (with_reducible assumption) | assumption)
        have q203 : x7_1 < (y200.length : Int) := of_decide_eq_true (by first | (with_reducible assumption) | assumption)
        obtain ⟨ad203, e203, hx203_0, hx203_1⟩ := at_T42 (Kd.R_reads' HO_6.out).2.2 x7_1 p203 q203
        cases e203
        replace p203 := eq_true p203
        replace q203 := eq_true q203
        go_wp2_with (first | ((with_reducible refine gate_callee (f := 51) rfl ?_); refine goesL_ (some 23) rfl rfl Tryd.func51 (by kernel_rfl) rfl #[.agg #[.int .i64 ((rd_T42 y200 x7_1).f0), .int .i64 ((rd_T42 y200 x7_1).f1)]] rfl (by (try simp only [List.map_toArray, List.map_cons, List.map_nil]); first | done | rfl | (simp only [List.length_drop, List.length_take]; rfl)) ?_; (with_reducible refine (r01_Right.calls ((rd_T42 y200 x7_1).f0) ((rd_T42 y200 x7_1).f1) false _ A11.out).mono ?_); rintro e w23 ⟨rfl, hb⟩; refine ⟨_, rfl, ?_⟩; have n0_ := am (Kd.R_below (by (with_reducible repeat (first | apply Kd.R_alloc | apply Kd.R_drewN | apply Kd.R_drew)); exact HO_5.out) hb); have n1_ := am (Kd.R_below (by (with_reducible repeat (first | apply Kd.R_alloc | apply Kd.R_drewN | apply Kd.R_drew)); exact HO_6.out) hb); have n2_ := am (below_step (by repeat (first | (with_reducible first | exact HB.out | apply bal | apply bdn | apply bd1) | exact HB.out)) hb); clear HO_5; clear HO_6; clear HB; have HO_5 := n0_; have HO_6 := n1_; have HB := n2_; clear n0_ n1_ n2_; (try clear hb); (try clear hb2); (try clear hk); (try clear hi)))
        go_roundg k1
        case measure => have := HK1.out; omega
        case rel => exact ⟨(x5_1), (wrap64 (x7_1 + 1)), (by first | rfl | (simp; done) | (simp [*]; done)), H', ⟨by have := HK1.out; omega⟩, ⟨by (with_reducible repeat (first | apply Kd.R_alloc | apply Kd.R_drewN | apply Kd.R_drew)); exact HO_5.out⟩, ⟨by (with_reducible repeat (first | apply Kd.R_alloc | apply Kd.R_drewN | apply Kd.R_drew)); exact HO_6.out⟩, ⟨by repeat (first | (with_reducible first | exact HB.out | apply bal | apply bdn | apply bd1) | exact HB.out)⟩⟩
      ·rw [if_neg c10] at H
       exact absurd H (by simp)
     ·rw [if_neg c9] at H
      have c9b0 : decide (x7_1 < (y200.length : Int)) = false := decide_eq_false c9
      clear c9
      obtain rfl := Option.some.inj H
      obtain ⟨Ao24, co24, eo24⟩ := Kd.R_slice HO_6.out
      subst eo24
      go_wp2
      go_ret
      exact ⟨_, by first | rfl | (simp [errW_none, errW_some] <;> rfl) | (simp [*, errW_none, errW_some] <;> rfl), by (with_reducible repeat (first | apply Kd.R_alloc | apply Kd.R_drewN | apply Kd.R_drew)); exact HO_5.out, by repeat (first | (with_reducible first | exact HB.out | apply bal | apply bdn | apply bd1) | exact HB.out)⟩
  ·rw [if_neg c4] at H
   exact absurd H (by simp)
 ·rw [if_neg c3] at H
  exact absurd H (by simp)

end Go.Proofs.YtbgojgoejlhgeaaDoor.Pr
