/- What is sure stays sure: what the statement FenceSure walks to. Conditions: the state and the table of texts lie in memory. -/
import Derived.Test.YtbgojgoejlhgeaaDoorPre
import Derived.Test.YtbgojgoejlhgeaaDoorKS
namespace Go.Proofs.YtbgojgoejlhgeaaDoor.Pr
open Go.RowKit Go.Proofs.YtbgojgoejlhgeaaDoorW.PrintWords
/-- the row false, true in the block b, apart from g -/
def FT (g b : Nat) (W : World) : Prop := ∀ W', KeepBut W W' g none → W'.heap[b]? = some (.cells #[.bool false, .bool true] 4 (0, 0))
theorem FT.step {g b : Nat} {W W2 : World} (h : FT g b W) (hk : KeepBut W W2 g none) : FT g b W2 := fun W' hk' => h W' (hk.trans hk' (.inl rfl))
theorem FT.new {g : Nat} {W : World} (hg : g < W.heap.size) : FT g W.heap.size (W.alloc (.cells #[.bool false, .bool true] 4)) := fun W' hk => hk.blk (new_obj W _) (by omega) (by simp)
abbrev stTF (s : St) (t f : Bool) : St := ⟨s.head, s.R, s.H, s.F, t, f, s.again, s.joins⟩
set_option maxRecDepth 100000 in
theorem fenceSure_few {W : World} {s : St} {x : Sx} (hg : GT W) (h : MS W s x) (hf : Few s) : Calls Tryd.prog 4 #[stV s x] W fun e w' => e = .returned (.bool true) ∧ Below W.heap.size W w' := by
  have HG := Lib.hid hg
  have HA := Lib.hid (AW.box h)
  have HF := Lib.hid hf
  have hgr : decide (¬ Few s) = false := decide_eq_false (fun hn => hn hf)
  clear hg h hf
  go_enter Tryd.func4, Tryd.ntmps4
  go_upto_region 1 with fail
  show Code.wp _ _ _ _ (W.alloc (.cells (cellsS s x) 24))
  generalize (W.alloc (.cells (cellsS s x) 24)) = w1 at HA ⊢
  generalize W.heap.size = g at HA ⊢
  go_wp2_with fail
  refine (awake11 (HG.out.below HA.out.bel)).mono ?_
  rintro e w2 ⟨rfl, b2⟩
  have HS := Lib.hid (HA.out.call b2)
  clear HA b2
  obtain ⟨q0, q1, q2, q3, q4, q5, q6, q7⟩ := cells8 HS.out.blk
  go_wp2_with fail
  refine (great_n HS.out.ms).mono ?_
  rintro e w3 ⟨rfl, b3⟩
  rw [hgr]
  have HS3 := Lib.hid (HS.out.call b3)
  clear HS b3 q0 q1 q2 q3 q4 q5 q6 q7 hgr
  obtain ⟨q0, q1, q2, q3, q4, q5, q6, q7⟩ := cells8 HS3.out.blk
  go_wp2_with fail
  refine (own_few HS3.out.ms HF.out).mono ?_
  rintro e w4 ⟨x4, rfl, m4, b4⟩
  have HS4 := Lib.hid (HS3.out.call b4)
  have HM4 := Lib.hid m4
  clear HS3 b4 m4 q0 q1 q2 q3 q4 q5 q6 q7
  go_wp2_with fail
  refine (sure_c HM4.out ((few_norm HF.out).mono (by omega))).mono ?_
  rintro e w5 ⟨rfl, b5⟩
  have HS5 := Lib.hid (HS4.out.call b5)
  clear HS4 HM4 b5
  obtain ⟨q, HQ⟩ : ∃ q, Hid (sureS (ofS s) = q) := ⟨_, rfl⟩
  rw [HQ.out]
  obtain ⟨q0, q1, q2, q3, q4, q5, q6, q7⟩ := cells8 HS5.out.blk
  go_wp2_with fail
  refine (refof_c HS5.out.ms (by have := HF.out.1; omega) (by have := HF.out.2.1; omega) (by have := HF.out.2.2; omega)).mono ?_
  rintro e w6 ⟨x6, rfl, m6, b6⟩
  have HS6 := Lib.hid (HS5.out.call b6)
  have HM6 := Lib.hid m6
  clear HS5 b6 m6 q0 q1 q2 q3 q4 q5 q6 q7
  go_wp2_with fail
  refine (refsure_c HM6.out ((few_norm HF.out).mono (by omega))).mono ?_
  rintro e w7 ⟨rfl, b7⟩
  rw [HQ.out]
  have HS := Lib.hid (show AW W g (stTF s s.turned s.failed) x w7 from HS6.out.call b7)
  clear HS6 HM6 b7
  go_wp2_with fail
  have HFT := Lib.hid (FT.new HS.out.glt)
  have HS8 := Lib.hid (HS.out.call ((Below.refl _ w7).alloc (Nat.le_refl _) (.cells #[.bool false, .bool true] 4)))
  clear HS
  generalize w7.alloc (.cells #[.bool false, .bool true] 4) = w8 at HFT HS8 ⊢
  generalize w7.heap.size = b at HFT ⊢
  go_loopw [26] (fun i wr => ∃ (k : Nat) (t f : Bool), k ≤ 2 ∧ i = .int .i64 k ∧ Hid (AW W g (stTF s t f) x wr) ∧ Hid (FT g b wr)) (fun i _ => 2 - (intOf i).toNat)
  case atStart => exact ⟨0, s.turned, s.failed, by omega, rfl, HS8, HFT⟩
  case round =>
    clear HFT HS8
    obtain ⟨k, t, f, hk, rfl, HS, HFT⟩ := hrel
    by_cases hlt : k < 2
    · obtain ⟨v, hv⟩ : ∃ v : Bool, (#[Value.bool false, .bool true] : Array Value)[k]? = some (.bool v) := by
        rcases (by omega : k = 0 ∨ k = 1) with rfl | rfl
        · exact ⟨false, rfl⟩
        · exact ⟨true, rfl⟩
      have hc := cellO (off := k) (HFT.out wr (KeepBut.refl _ _ _)) hv
      clear hv
      go_wp2_with fail
      have HF2 := Lib.hid (FT.new HS.out.glt)
      have ba := (Below.refl _ wr).alloc (Nat.le_refl _) (.cells #[.bool false, .bool true] 4)
      have HS8 := Lib.hid (HS.out.call ba)
      have HF8 := Lib.hid (HFT.out.step (.of_below ba _ _))
      clear HS HFT ba hc
      generalize wr.alloc (.cells #[.bool false, .bool true] 4) = w9 at HF2 HF8 HS8 ⊢
      generalize wr.heap.size = b2 at HF2 ⊢
      generalize Value.bool (decide ((k : Int) < 2)) = z27
      go_loopw [32] (fun i w2 => ∃ (j : Nat) (t f : Bool), j ≤ 2 ∧ i = .int .i64 j ∧ Hid (AW W g (stTF s t f) x w2) ∧ Hid (FT g b w2) ∧ Hid (FT g b2 w2)) (fun i _ => 2 - (intOf i).toNat)
      case atStart => exact ⟨0, t, f, by omega, rfl, HS8, HF8, HF2⟩
      case round =>
        clear HF2 HF8 HS8
        obtain ⟨j, t, f, hj, rfl, HS, HFT, HF2⟩ := hrel
        by_cases hlj : j < 2
        · obtain ⟨u, hu⟩ : ∃ u : Bool, (#[Value.bool false, .bool true] : Array Value)[j]? = some (.bool u) := by
            rcases (by omega : j = 0 ∨ j = 1) with rfl | rfl
            · exact ⟨false, rfl⟩
            · exact ⟨true, rfl⟩
          have hc := cellO (off := j) (HF2.out wr (KeepBut.refl _ _ _)) hu
          have c4 := cellO (off := 4) HS.out.blk rfl
          have f4 := frozenO (off := 4) HS.out.blk
          have c5 := cellO (off := 5) HS.out.blk rfl
          have f5 := frozenO (off := 5) HS.out.blk
          have HS4 := Lib.hid (show AW W g (stTF s v u) x _ from (HS.out.setT v).setFailed u)
          have HK := Lib.hid (((KeepBut.refl wr g none).set_ 4 (.bool v)).set_ 5 (.bool u))
          have HF4 := Lib.hid (HFT.out.step HK.out)
          have HF5 := Lib.hid (HF2.out.step HK.out)
          clear hu HS HFT HF2 HK
          go_upto_region 13 with fail
          clear hc c4 f4 c5 f5
          generalize (wr.setCell ⟨g, 4, none⟩ (.bool v)).setCell ⟨g, 5, none⟩ (.bool u) = w4 at HS4 HF4 HF5 ⊢
          have HW : Hid (Few (stTF s v u)) := HF.out
          obtain ⟨q0, q1, q2, q3, q4, q5, q6, q7⟩ := cells8 HS4.out.blk
          go_wp2_with fail
          refine (own_few HS4.out.ms HW.out).mono ?_
          rintro e y1 ⟨z1, rfl, n1, b1⟩
          have HA1 := Lib.hid (HS4.out.call b1)
          have HM1 := Lib.hid n1
          have HKb : Hid (KeepBut w4 y1 g none) := .of_below b1 _ _
          clear HS4 b1 n1 q0 q1 q2 q3 q4 q5 q6 q7
          go_wp2_with fail
          refine (sure_c HM1.out ((few_norm HW.out).mono (by omega))).mono ?_
          rintro e y2 ⟨rfl, b2⟩
          rw [show sureS (ofS (stTF s v u)) = q from HQ.out]
          have HA2 := Lib.hid (HA1.out.call b2)
          have HKc := Lib.hid (HKb.out.trans (.of_below b2 g none) (.inl rfl))
          clear HA1 HM1 HKb b2
          obtain ⟨q0, q1, q2, q3, q4, q5, q6, q7⟩ := cells8 HA2.out.blk
          go_wp2_with fail
          refine (own_few HA2.out.ms HW.out).mono ?_
          rintro e y3 ⟨z3, rfl, n3, b3⟩
          have HA3 := Lib.hid (HA2.out.call b3)
          have HM3 := Lib.hid n3
          have HKd := Lib.hid (HKc.out.trans (.of_below b3 g none) (.inl rfl))
          clear HA2 HKc b3 n3 q0 q1 q2 q3 q4 q5 q6 q7
          go_wp2_with fail
          refine (decide_c HM3.out ((few_norm HW.out).mono (by omega))).mono ?_
          rintro e y4 ⟨rfl, b4⟩
          have HA4 := Lib.hid (HA3.out.call b4)
          have HKe := Lib.hid (HKd.out.trans (.of_below b4 g none) (.inl rfl))
          clear HA3 HM3 HKd b4
          obtain ⟨d, HD⟩ : ∃ d, Hid (decS (ofS (stTF s v u)) = d) := ⟨_, rfl⟩
          rw [HD.out]
          cases q with
          | false =>
            clear HD
            go_wp2_with fail
            go_roundw
            case rel => exact ⟨j + 1, v, u, by omega, by go_num, HA4, HF4.out.step HKe.out, HF5.out.step HKe.out⟩
            case measure => simp [intOf]; omega
          | true =>
            obtain ⟨p1, p2, p3, p4⟩ := sure_plain (few_norm HW.out) HQ.out
            rw [HD.out] at p2 p3 p4
            have HL := Lib.hid p1
            clear HD p1
            obtain ⟨q0, q1, q2, q3, q4, q5, q6, q7⟩ := cells8 HA4.out.blk
            go_wp2_with fail
            refine (own_few HA4.out.ms HW.out).mono ?_
            rintro e y5 ⟨z5, rfl, n5, b5⟩
            have HA5 := Lib.hid (HA4.out.call b5)
            have HM5 := Lib.hid n5
            have HKf := Lib.hid (HKe.out.trans (.of_below b5 g none) (.inl rfl))
            clear HA4 HKe b5 n5 q0 q1 q2 q3 q4 q5 q6 q7
            go_wp2_with fail
            refine (lost_c HM5.out ((few_norm HW.out).mono (by omega))).mono ?_
            rw [HL.out]
            rintro e y6 ⟨A6, c6, rfl, r6, l6, b6⟩
            have HA6 := Lib.hid (HA5.out.call b6)
            have HKg := Lib.hid (HKf.out.trans (.of_below b6 g none) (.inl rfl))
            have HR6 := Lib.hid r6
            clear HA5 HM5 HKf b6 r6
            go_wp2_with fail
            refine (len_c HR6.out (Nat.zero_le _) Norm.nil (by decide)).mono ?_
            rintro e y7 ⟨rfl, b7⟩
            rw [show lenL [] = 0 from rfl]
            have HA7 := Lib.hid (HA6.out.call b7)
            have HKh := Lib.hid (HKg.out.trans (.of_below b7 g none) (.inl rfl))
            clear HA6 HKg HR6 b7
            go_wp2_with fail
            all_goals first
              | (exfalso; rename_i hh; revert hh; simp [p2, p3, p4]; done)
              | (go_roundw
                 case rel => exact ⟨j + 1, v, u, by omega, by go_num, HA7, HF4.out.step HKh.out, HF5.out.step HKh.out⟩
                 case measure => simp [intOf]; omega)
        · obtain rfl : j = 2 := by omega
          go_wp2_with fail
          go_roundw
          case rel => exact ⟨k + 1, t, f, by omega, by go_num, HS, HFT⟩
          case measure => simp [intOf]; omega
    · obtain rfl : k = 2 := by omega
      go_wp2_with fail
      go_ret
      exact ⟨rfl, HS.out.bel⟩
set_option maxRecDepth 100000 in
theorem fenceSure_many {W : World} {s : St} {x : Sx} (hg : GT W) (h : MS W s x) (hf : ¬ Few s) : Calls Tryd.prog 4 #[stV s x] W fun e w' => e = .returned (.bool true) ∧ Below W.heap.size W w' := by
  have HG := Lib.hid hg
  have HA := Lib.hid (AW.box h)
  have hgr : decide (¬ Few s) = true := decide_eq_true hf
  clear hg h hf
  go_enter Tryd.func4, Tryd.ntmps4
  go_upto_region 1 with fail
  show Code.wp _ _ _ _ (W.alloc (.cells (cellsS s x) 24))
  generalize (W.alloc (.cells (cellsS s x) 24)) = w1 at HA ⊢
  generalize W.heap.size = g at HA ⊢
  go_wp2_with fail
  refine (awake11 (HG.out.below HA.out.bel)).mono ?_
  rintro e w2 ⟨rfl, b2⟩
  have HS := Lib.hid (HA.out.call b2)
  clear HA b2
  obtain ⟨q0, q1, q2, q3, q4, q5, q6, q7⟩ := cells8 HS.out.blk
  go_wp2_with fail
  refine (great_n HS.out.ms).mono ?_
  rintro e w3 ⟨rfl, b3⟩
  rw [hgr]
  have HS3 := Lib.hid (HS.out.call b3)
  clear HS b3 q0 q1 q2 q3 q4 q5 q6 q7 hgr
  go_wp2_with fail
  refine (awake11 (HG.out.below HS3.out.bel)).mono ?_
  rintro e w4 ⟨rfl, b4⟩
  have HS4 := Lib.hid (HS3.out.call b4)
  clear HS3 b4
  go_wp2_with fail
  go_ret
  exact ⟨rfl, HS4.out.bel⟩
theorem fenceSure_walk {W : World} {s : St} {x : Sx} (hg : GT W) (h : MS W s x) : Calls Tryd.prog 4 #[stV s x] W fun e w' => e = .returned (.bool true) ∧ Below W.heap.size W w' := by
  by_cases hf : Few s
  · exact fenceSure_few hg h hf
  · exact fenceSure_many hg h hf
end Go.Proofs.YtbgojgoejlhgeaaDoor.Pr
