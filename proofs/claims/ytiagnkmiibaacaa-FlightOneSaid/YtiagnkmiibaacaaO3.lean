/- A thousand askers, one fetch: the walk of the statement FlightOne. Conditions: the arguments lie in memory. -/
import Derived.Test.YtiagnkmiibaacaaO2
namespace Go.Proofs.Ytiagnkmiibaacaa
open Go.RowKit Go.Maps Go.ChangeMaps Go.WideMaps Go.Sort
theorem contains_snoc (l : List Int) (x y : Int) : (l ++ [y]).contains x = (l.contains x || (y == x)) := by
  by_cases h1 : x ∈ l
  · simp [h1]
  · by_cases h2 : y = x
    · subst h2; simp
    · have h3 : ¬ x = y := fun e => h2 e.symm
      simp [h1, h2, h3]
set_option maxRecDepth 100000 in
set_option maxHeartbeats 4000000 in
theorem one_refused {W : World} {A : Option Addr} {c : Nat} {l : List Int} {f : Fl} (h1 : l.length ≤ 200) (h2 : fewF f) (hs : startB f = false) : Calls Try.prog 3 #[.slice A l.length c, .agg (cF f)] W fun e w' => e = .returned (.bool true) ∧ Below W.heap.size W w' := by
  have b1 := Lib.hid ((Below.refl W.heap.size W).alloc (Nat.le_refl _) (.cells (cF f) 30))
  have g1 : (l.length : Int) ≤ 200 := by omega
  have g2 : (f.obj.size : Int) ≤ 40 := by have := h2.1; omega
  have g3 : (f.mt.size : Int) ≤ 40 := by have := h2.2.1; omega
  have g4 : (f.nt.size : Int) ≤ 40 := by have := h2.2.2; omega
  have HS := Lib.hid hs
  clear h1 h2 hs
  go_enter Try.func3, Try.ntmps3
  go_upto_region 3 with fail
  show Code.wp _ _ _ _ (W.alloc (.cells (cF f) 30))
  have hb := obj_new W (.cells (cF f) 30)
  have HBk := Lib.hid hb
  clear hb
  generalize W.alloc (.cells (cF f) 30) = w1 at b1 HBk ⊢
  obtain ⟨g, Hg⟩ : ∃ g, Hid (W.heap.size = g) := ⟨_, rfl⟩
  rw [Hg.out] at HBk ⊢
  go_wp2_with fail
  refine (new_any w1).mono ?_
  rintro e w2 ⟨rfl, h2, c2⟩
  have H2 := Lib.hid h2
  have B2 := Lib.hid (below_ch b1.out (c2.mono (T := fun k => W.heap.size ≤ k) (fun _ h _ => h.elim)) (fun _ h => h))
  have HB2 := Lib.hid (c2.obj HBk.out (fun h => h))
  clear h2 c2 b1 HBk
  have d0 := cell_of (off := 0) (v := .int .i64 f.id) HB2.out rfl
  have d1 := cell_of (off := 1) (v := .string f.obj) HB2.out rfl
  have d2 := cell_of (off := 2) (v := .int .i64 f.fr) HB2.out rfl
  have d3 := cell_of (off := 3) (v := .int .i64 f.upto) HB2.out rfl
  have d4 := cell_of (off := 4) (v := .string f.mt) HB2.out rfl
  have d5 := cell_of (off := 5) (v := .bool f.mw) HB2.out rfl
  have d6 := cell_of (off := 6) (v := .string f.nt) HB2.out rfl
  have d7 := cell_of (off := 7) (v := .bool f.nw) HB2.out rfl
  have d8 := cell_of (off := 8) (v := .int .i64 f.entry) HB2.out rfl
  have d9 := cell_of (off := 9) (v := .int .i64 f.said) HB2.out rfl
  have d10 := cell_of (off := 10) (v := .int .i64 f.moment) HB2.out rfl
  have d11 := cell_of (off := 11) (v := .int .i64 f.gen) HB2.out rfl
  have d12 := cell_of (off := 12) (v := .int .i64 f.at_) HB2.out rfl
  have d13 := cell_of (off := 13) (v := .bool f.heard) HB2.out rfl
  go_wp2_with fail
  refine (start_bad f HS.out).mono ?_
  rintro e w3 ⟨rfl, hb⟩
  have B3 := Lib.hid (B2.out.trans (hb.mono B2.out.size))
  clear hb d0 d1 d2 d3 d4 d5 d6 d7 d8 d9 d10 d11 d12 d13
  go_wp2_with fail
  refine (awake_any _).mono ?_
  rintro e w4 ⟨rfl, hb⟩
  go_wp2_with fail
  go_ret
  exact ⟨rfl, B3.out.trans (hb.mono B3.out.size)⟩
set_option maxRecDepth 100000 in
set_option maxHeartbeats 8000000 in
theorem one_goes {W : World} {A : Option Addr} {c : Nat} {l : List Int} {f : Fl} (hl : IS W A l) (h1 : l.length ≤ 200) (h2 : fewF f) (hs : startB f = true) : Calls Try.prog 3 #[.slice A l.length c, .agg (cF f)] W fun e w' => e = .returned (.bool true) ∧ Below W.heap.size W w' := by
  have b1 := Lib.hid ((Below.refl W.heap.size W).alloc (Nat.le_refl _) (.cells (cF f) 30))
  have HI := Lib.hid hl
  have HLn := Lib.hid h1
  have g1 : (l.length : Int) ≤ 200 := by omega
  have g2 : (f.obj.size : Int) ≤ 40 := by have := h2.1; omega
  have g3 : (f.mt.size : Int) ≤ 40 := by have := h2.2.1; omega
  have g4 : (f.nt.size : Int) ≤ 40 := by have := h2.2.2; omega
  have HS := Lib.hid hs
  clear h1 h2 hs hl
  obtain ⟨i0, hi0, hz0, hz1, hz2⟩ := info_parts info3
  go_enter Try.func3, Try.ntmps3
  go_upto_region 3 with fail
  show Code.wp _ _ _ _ (W.alloc (.cells (cF f) 30))
  have hb := obj_new W (.cells (cF f) 30)
  have HBk := Lib.hid hb
  clear hb
  generalize W.alloc (.cells (cF f) 30) = w1 at b1 HBk ⊢
  obtain ⟨g, Hg⟩ : ∃ g, Hid (W.heap.size = g) := ⟨_, rfl⟩
  rw [Hg.out] at HBk ⊢
  go_wp2_with fail
  refine (new_any w1).mono ?_
  rintro e w2 ⟨rfl, h2, c2⟩
  have HF0 : Hid (∀ k, (fun k => k = w1.heap.size ∨ k = w1.heap.size + 1) k → W.heap.size ≤ k) := fun k hk => by have := b1.out.size; rcases hk with rfl | rfl <;> omega
  generalize (fun k => k = w1.heap.size ∨ k = w1.heap.size + 1) = F0 at h2 HF0
  generalize w1.heap.size + 1 = p at h2 ⊢
  generalize hm : w1.heap.size = m at h2
  clear hm
  have H2 := Lib.hid h2
  have B2 := Lib.hid (below_ch b1.out (c2.mono (T := fun k => W.heap.size ≤ k) (fun _ h _ => h.elim)) (fun _ h => h))
  have HB2 := Lib.hid (c2.obj HBk.out (fun h => h))
  clear h2 c2 b1 HBk
  have d0 := cell_of (off := 0) (v := .int .i64 f.id) HB2.out rfl
  have d1 := cell_of (off := 1) (v := .string f.obj) HB2.out rfl
  have d2 := cell_of (off := 2) (v := .int .i64 f.fr) HB2.out rfl
  have d3 := cell_of (off := 3) (v := .int .i64 f.upto) HB2.out rfl
  have d4 := cell_of (off := 4) (v := .string f.mt) HB2.out rfl
  have d5 := cell_of (off := 5) (v := .bool f.mw) HB2.out rfl
  have d6 := cell_of (off := 6) (v := .string f.nt) HB2.out rfl
  have d7 := cell_of (off := 7) (v := .bool f.nw) HB2.out rfl
  have d8 := cell_of (off := 8) (v := .int .i64 f.entry) HB2.out rfl
  have d9 := cell_of (off := 9) (v := .int .i64 f.said) HB2.out rfl
  have d10 := cell_of (off := 10) (v := .int .i64 f.moment) HB2.out rfl
  have d11 := cell_of (off := 11) (v := .int .i64 f.gen) HB2.out rfl
  have d12 := cell_of (off := 12) (v := .int .i64 f.at_) HB2.out rfl
  have d13 := cell_of (off := 13) (v := .bool f.heard) HB2.out rfl
  go_wp2_with fail
  refine (start_ok H2.out f HS.out (by decide) (by decide)).mono ?_
  rintro e w3 ⟨rfl, F3, K3, V3, h3, t3⟩
  have H3 : Hid (FS F3 p m 1 (one f []) 1 K3 V3 w3) := h3
  have B3 := Lib.hid (below_ch B2.out t3.ch HF0.out)
  have HF3 : Hid (∀ k, F3 k → W.heap.size ≤ k) := fun k hk => by
    have := B2.out.size
    rcases t3.sub k hk with h | h
    · exact HF0.out k h
    · omega
  clear h3 t3 d0 d1 d2 d3 d4 d5 d6 d7 d8 d9 d10 d11 d12 d13 H2 HF0 HB2 B2
  go_upto_region 11 with fail
  have HW3 : Hid (∀ k, F3 k → k < w3.heap.size) := H3.out.lt
  go_loopw [8, 59] (fun v i wr => ∃ (k : Nat) (F : Nat → Prop) (V : Int → Value), k ≤ l.length ∧ i = .int .i64 k ∧ Hid (FS F p m 1 (one f (onceL (l.take k))) 1 K3 V wr) ∧ Hid (wr.ownsRow W.heap.size 3 1 v (onceL (l.take k)).length (ints (onceL (l.take k)))) ∧ Hid (∀ j, v.ownBlock = some j → ¬ F j) ∧ Hid (∀ j, F j → W.heap.size ≤ j) ∧ Hid (Below W.heap.size W wr)) (fun _ i _ => l.length - (intOf i).toNat)
  case atStart => exact ⟨0, F3, V3, Nat.zero_le _, rfl, H3, ⟨by simp [onceL], .inl ⟨rfl, by simp [onceL]⟩⟩, fun j hj => by simp [Value.ownBlock] at hj, HF3, B3⟩
  case round =>
    obtain ⟨k, F, V, hk, rfl, HS, HO, HD, HF, HB⟩ := hrel
    clear H3 B3 HF3 HW3
    have hSl0 := onceL_len (l.take k)
    have hSlen : (onceL (l.take k)).length ≤ 200 := by rw [List.length_take] at hSl0; have := HLn.out; omega
    clear hSl0
    by_cases hlt : k < l.length
    · have hk9 : k < 1000000 := by have := HLn.out; omega
      obtain ⟨ga, oa, hAe, hg, hcell⟩ := HI.out k hlt
      subst hAe
      have hcell2 : wr.cell? ⟨ga, oa + k, none⟩ = some (.int .i64 l[k]) := (HB.out.cell hg).trans hcell
      have hT : Hid (onceL (l.take (k + 1)) = if (onceL (l.take k)).contains l[k] then onceL (l.take k) else onceL (l.take k) ++ [l[k]]) := by
        show _ = _
        rw [take_snocF l k hlt, onceL_snoc]
      clear hcell hg
      generalize l[k] = x at hcell2 hT
      generalize onceL (l.take k) = S at HS HO hT hSlen
      obtain ⟨A8, c8, hv8⟩ := row_slice HO.out
      subst hv8
      have HI8 := Lib.hid (IS.of_row HO.out)
      have hfind : find (one f S) 1 = some ⟨{ f with id := 1, at_ := f.fr }, f.upto, S⟩ := one_find f S
      have HFd := Lib.hid hfind
      clear hfind
      go_upto_region 15 with fail
      go_loop [11, 65] (fun kn i => ∃ j : Nat, j ≤ S.length ∧ i = .int .i64 j ∧ kn = .bool ((S.take j).contains x)) (fun _ i => S.length - (intOf i).toNat)
      case atStart => exact ⟨0, Nat.zero_le _, rfl, by simp⟩
      case round =>
        obtain ⟨j, hj, rfl, rfl⟩ := hrel
        by_cases hlj : j < S.length
        · have hj9 : j < 1000000 := by omega
          obtain ⟨gs, os_, hSe, hgs, hcs⟩ := HI8.out j hlj
          subst hSe
          have hct : Hid ((S.take (j + 1)).contains x = ((S.take j).contains x || (S[j] == x))) := by
            show _ = _
            rw [take_snocF S j hlj, contains_snoc]
          generalize S[j] = y at hcs hct
          obtain ⟨kb, hkb⟩ : ∃ kb, (S.take j).contains x = kb := ⟨_, rfl⟩
          rw [hkb] at hct ⊢
          clear hkb
          cases kb with
          | true =>
            go_wp2_with fail
            go_round
            case rel => exact ⟨j + 1, by omega, by go_num, by rw [hct.out]; rfl⟩
            case measure => simp [intOf]; omega
          | false =>
            go_wp2_with fail
            go_round
            case rel => exact ⟨j + 1, by omega, by go_num, by rw [hct.out]; simp⟩
            case measure => simp [intOf]; omega
        · obtain rfl : j = S.length := by omega
          rw [List.take_length]
          obtain ⟨kb, hkb⟩ : ∃ kb, S.contains x = kb := ⟨_, rfl⟩
          have HKB := Lib.hid hkb
          rw [hkb]
          rw [hkb] at hT
          clear hkb
          cases kb with
          | true =>
            go_wp2_with (go_at_call 12; refine (join_twice HS.out wf1 HFd.out (show S.length < 1000000 by omega) x HKB.out).mono ?_; rintro e w' ⟨rfl, rfl⟩)
            go_roundw
            case rel => exact ⟨k + 1, F, V, by omega, by go_num, by rw [hT.out]; simpa using HS, by rw [hT.out]; simpa using HO, HD, HF, HB⟩
            case measure => simp [intOf]; omega
          | false =>
            have hT2 : Hid (onceL (l.take (k + 1)) = S ++ [x]) := by
              show _ = _
              have := hT.out
              simpa using this
            go_wp2_with (first
              | (go_at_call 12; refine (join_yes HS.out wf1 HFd.out (show S.length < 1000000 by omega) x HKB.out).mono ?_; rintro e w4 ⟨rfl, F4, V4, h4, t4⟩; have H4 : Hid (FS F4 p m 1 (one f (S ++ [x])) 1 K3 V4 w4) := h4; have T4 := Lib.hid t4; have HO4 := Lib.hid (t4.ch.ownsRow HO.out HD.out); clear h4 t4)
              | (at_builtin; refine wpList_append_own_at _ rfl _ _ 22 rfl W.heap.size 3 i0 (.int .i64 0) 1 8 Try.underlying22 hi0 hz0 hz1 hz2 rfl (by decide) _ _ _ rfl (HO4.out.alloc _) ⟨w4.heap.size, 0, none⟩ 1 1 [.int .i64 x] rfl rfl ?a1 ?a2 ?a3 ?a4 ?a5 ?_))
            case a1 => exact cell_one_new _ _ _
            case a2 => simp [Value.oneCell']
            case a3 => unfold maxLen; omega
            case a4 => omega
            case a5 => have := HB.out.size; have := T4.out.ch.size; simp; omega
            intro v5 w5 hown5 hgrow5 _ hat5
            have HO5 := Lib.hid hown5
            have B4 := below_ch HB.out T4.out.ch HF.out
            have hF4 : ∀ j, F4 j → W.heap.size ≤ j := fun j hj => by
              rcases T4.out.sub j hj with h | h
              · exact HF.out j h
              · have := HB.out.size; omega
            have hnF : ∀ j, (Value.slice A8 S.length c8).ownBlock = some j → ¬ F4 j := fun j hj hF => by
              rcases T4.out.sub j hF with h | h
              · exact HD.out j hj h
              · obtain ⟨cs, h'⟩ := own_type HO.out hj
                have := lt_of_obj h'; omega
            have hlo : ∀ j, (Value.slice A8 S.length c8).ownBlock = some j → W.heap.size ≤ j := fun j hj => by
              rcases HO.out.2 with ⟨e, _⟩ | ⟨gg, cap, cur, e, hbg, _⟩
              · rw [e] at hj; simp [Value.ownBlock] at hj
              · rw [e] at hj; simp [Value.ownBlock] at hj; omega
            have cc : Ch (fun j => (Value.slice A8 S.length c8).ownBlock = some j) w4 w5 := ((Ch.refl _ _).alloc _).grown hgrow5 (fun j hj => .inl hj)
            have HS5 := Lib.hid (H4.out.far cc (fun j hj hF => hnF j hj hF))
            have HB5 := Lib.hid (below_ch B4 cc hlo)
            have HF5 := Lib.hid hF4
            have HD5 : Hid (∀ j, v5.ownBlock = some j → ¬ F4 j) := fun j hj hF => by
              rcases hat5 with e | e
              · exact hnF j (by rw [← e]; exact hj) hF
              · rw [e] at hj; injection hj with hj; have := H4.out.lt j hF; first | omega | (simp at hj; omega)
            have HO6 : Hid (w5.ownsRow W.heap.size 3 1 v5 (S ++ [x]).length (ints (S ++ [x]))) := by
              show World.ownsRow _ _ _ _ _ _ _
              have := HO5.out
              simpa [ints] using this
            clear hown5 hgrow5 hat5 B4 hF4 hnF hlo cc hcell2
            go_wp2
            go_roundw
            case rel => exact ⟨k + 1, F4, V4, by omega, by go_num, by rw [hT2.out]; exact HS5, by rw [hT2.out]; exact HO6, HD5, HF5, HB5⟩
            case measure => simp [intOf]; omega
    · obtain rfl : k = l.length := by omega
      rw [List.take_length] at HS HO hSlen
      generalize onceL l = S at HS HO hSlen
      obtain ⟨A8, c8, hv8⟩ := row_slice HO.out
      subst hv8
      have e1 : (fls (one f S)).length = 1 := rfl
      go_wp2_with (go_at_call 13; refine (all_any HS.out (by decide) (by decide) (show 1 < 1000000 by omega)).mono ?_; rintro e w4 ⟨A4, c4, rfl, i4, hb⟩)
      have B4 := Lib.hid (HB.out.trans (hb.mono HB.out.size))
      have H4 := Lib.hid (HS.out.below hb)
      have HO4 := Lib.hid (Ch.ownsRow (Ch.of_below hb rfl) HO.out (fun _ _ h => h))
      clear i4 hb HS HB HO
      have E14 := Lib.hid (end_yes H4.out wf1 (one_find f S))
      refine E14.out.mono ?_
      rintro e w5 ⟨A5, c5, K5, rfl, i5, h5, t5⟩
      have H5 : Hid (FS F p m 1 [] 1 K5 V w5) := h5
      have B5 := Lib.hid (below_ch B4.out t5.ch HF.out)
      have I5 : Hid (IS w5 A5 S) := i5
      have HO5 := Lib.hid (t5.ch.ownsRow HO4.out HD.out)
      have I8 := Lib.hid (IS.of_row HO5.out)
      clear i5 h5 t5 H4 B4 HO4 E14
      go_wp2_with fail
      refine (ints_any I5.out I8.out (by omega) (by omega)).mono ?_
      rintro e w6 ⟨rfl, hb⟩
      have H6 := Lib.hid (H5.out.below hb)
      have B6 := Lib.hid (B5.out.trans (hb.mono B5.out.size))
      clear I5 I8 HO5 H5 B5 hb
      have eS : decide (S = S) = true := decide_eq_true rfl
      rw [eS]
      clear eS
      go_wp2_with fail
      refine (all_any H6.out (by decide) (by decide) (by decide)).mono ?_
      rintro e w7 ⟨A7, c7, rfl, _, hb⟩
      have H7 := Lib.hid (H6.out.below hb)
      have B7 := Lib.hid (B6.out.trans (hb.mono B6.out.size))
      clear H6 B6 hb
      have e0 : (fls ([] : List FT)).length = 0 := rfl
      rw [e0]
      clear e0 e1
      go_upto_region 30 with fail
      go_loopw [116] (fun i wr => ∃ (k : Nat) , k ≤ l.length ∧ i = .int .i64 k ∧ Hid (FS F p m 1 [] 1 K5 V wr) ∧ Hid (Below W.heap.size W wr)) (fun i _ => l.length - (intOf i).toNat)
      case atStart => exact ⟨0, Nat.zero_le _, rfl, H7, B7⟩
      case round =>
        clear H7 B7
        obtain ⟨k, hk, rfl, HS, HB⟩ := hrel
        by_cases hlt : k < l.length
        · have hk9 : k < 1000000 := by have := HLn.out; omega
          obtain ⟨ga, oa, hAe, hg, hcell⟩ := HI.out k hlt
          subst hAe
          have hcell2 : wr.cell? ⟨ga, oa + k, none⟩ = some (.int .i64 l[k]) := (HB.out.cell hg).trans hcell
          clear hcell hg
          generalize l[k] = x at hcell2
          go_wp2_with fail
          refine (of_any HS.out (by decide) (by decide) (by decide) (by intro z hz; cases hz) x).mono ?_
          rintro e w8 ⟨A8', c8', rfl, _, hb⟩
          have HS8 := Lib.hid (HS.out.below hb)
          have HB8 := Lib.hid (HB.out.trans (hb.mono HB.out.size))
          clear HS HB hb hcell2
          have e0 : (whoL ([] : List FT) x).length = 0 := rfl
          rw [e0]
          clear e0
          go_wp2_with fail
          go_roundw
          case rel => exact ⟨k + 1, by omega, by go_num, HS8, HB8⟩
          case measure => simp [intOf]; omega
        · obtain rfl : k = l.length := by omega
          go_wp2_with fail
          refine (awake_any _).mono ?_
          rintro e w9 ⟨rfl, hb⟩
          have HB9 := Lib.hid (HB.out.trans (hb.mono HB.out.size))
          clear HB hb HS
          go_wp2_with fail
          go_ret
          exact ⟨rfl, HB9.out⟩
end Go.Proofs.Ytiagnkmiibaacaa
