/- What the reference's All does: the keys that are held, rising. Conditions: the lists lie in memory. -/
import Derived.Test.YtklnbfelcpnbeaaRq
import Derived.Test.YtklnbfelcpnbeaaIn
import Derived.Deep.QuietTactic
import Derived.BigQuiet
namespace Go.Proofs.Ytklnbfelcpnbeaa
open Go.RowKit Go.Maps Go.MuLone

theorem ownsRow_drewN {w : World} {base : Nat} {e : TypeId} {size : Nat} {v : Value} {n : Nat} {xs : List Value} (h : w.ownsRow base e size v n xs) (k : Nat) : (w.drewN k).ownsRow base e size v n xs := h
theorem ints_append (q : IntKind) (A B : List Int) : ints q (A ++ B) = ints q A ++ ints q B := by simp [ints]
/-- what the outer loop keeps -/
structure TA (w : World) (x y z : Value) (out : Value) (O : List Int) (W : World) : Prop where
  box : W.heap[w.heap.size]? = some (.cells #[x, y, z] 40)
  ch : Ch (fun _ => False) w W
  own : W.ownsRow (w.heap.size + 1) 2 1 out O.length (ints .i64 O)
theorem TA.step {w : World} {x y z out : Value} {O : List Int} {W W' : World} (h : TA w x y z out O W) (c : Ch (fun _ => False) W W') : TA w x y z out O W' :=
  ⟨c.obj h.box (fun h => h), h.ch.trans c (fun _ h _ => h), c.ownsRow h.own (fun _ _ h => h)⟩
theorem TA.next {w : World} {x y z out out' : Value} {O O' : List Int} {W W' : World} (h : TA w x y z out O W) (c : Ch (fun _ => False) W W') (own : W'.ownsRow W.heap.size 2 1 out' O'.length (ints .i64 O')) : TA w x y z out' O' W' :=
  ⟨c.obj h.box (fun h => h), h.ch.trans c (fun _ h _ => h), ownsRow_base own (lt_of_obj h.box)⟩
theorem length_allS (out : List Int) (x : Ho) : (allS out x).length ≤ out.length + 1 := by
  unfold allS; split
  · omega
  · have := (ins_perm x.2.1 out).length_eq; simp at this; omega
theorem length_allF (H : List Ho) : (allF H).length ≤ H.length := by
  suffices ∀ (L : List Ho) (o : List Int), (L.foldl allS o).length ≤ o.length + L.length from by have := this H []; simpa [allF] using this
  intro L
  induction L with
  | nil => intro o; simp
  | cons x r ih => intro o; have := ih (allS o x); have := length_allS o x; simp only [List.foldl_cons, List.length_cons] at *; omega
theorem length_insF (t : Int) (O : List Int) : (insF t O).2.length ≤ O.length + 1 := by
  have h := (ins_perm t O).length_eq
  unfold ins at h
  split at h
  · simp at h; omega
  · simp at h; omega

theorem insS_keep {t o : Int} {r : Bool × List Int} (h : r.1 = true ∨ gtS o t = false) : insS t r o = (r.1, r.2 ++ [o]) := by
  unfold insS
  rw [if_neg]
  rcases h with h | h <;> simp [h]
theorem insS_put {t o : Int} {r : Bool × List Int} (h : r.1 = false) (h' : gtS o t = true) : insS t r o = (true, r.2 ++ [t] ++ [o]) := by
  unfold insS
  rw [if_pos (by simp [h, h'])]
/-- the inner list grows: nothing that lay before has turned -/
theorem app_ch {wo wi w1 : World} {l : Value} {n : Nat} {xs : List Value} {o : Obj} {k : Nat} (hc : Ch (fun _ => False) wo wi) (hown : wi.ownsRow wo.heap.size 2 1 l n xs) (hg : ((wi.drewN k).alloc o).grownBy w1 l.ownBlock) : Ch (fun _ => False) wo w1 :=
  ((hc.trans (chN (fun _ => False) wi k) (fun _ h _ => h)).alloc o).grown hg (fun b hb => .inr (hown.lt b hb).1)

set_option maxRecDepth 100000 in
set_option maxHeartbeats 2000000 in
theorem rall_any {H : List Ho} {S : List Int} {a1 a2 a3 : Option Addr} {c1 c2 c3 : Nat} {w : World} (h : RV w H S a1 c1 a2 c2 a3 c3) (hlen : H.length < 900) :
    Calls Try.prog 22 #[refV a1 H.length c1 a2 c2 a3 S.length c3] w fun e w' => ∃ a' cap', e = .returned (.slice a' (allF H).length cap') ∧ Sl w' 2 a' (allF H).length (ints .i64 (allF H)) ∧ Ch (fun _ => False) w w' := by
  obtain ⟨i0, hi0, hz0, hz1, hz2⟩ := info_parts info2
  have HR := Lib.hid h
  have T0 : TA w (.slice a1 H.length c1) (.slice a2 H.length c2) (.slice a3 S.length c3) (.slice none 0 0) [] (w.alloc (.cells #[.slice a1 H.length c1, .slice a2 H.length c2, .slice a3 S.length c3] 40)) := ⟨obj_new w _, (Ch.refl _ w).alloc _, World.ownsRow_nil _ _ _ _⟩
  clear h
  go_enter Try.func22, Try.ntmps22
  go_wp2_with fail
  go_loopw [3, 4] (fun out i wr => ∃ k : Nat, k ≤ H.length ∧ i = .int .i64 k ∧ TA w (.slice a1 H.length c1) (.slice a2 H.length c2) (.slice a3 S.length c3) out (allF (H.take k)) wr) (fun _ i _ => H.length - (intOf i).toNat)
  case atStart => exact ⟨0, Nat.zero_le _, rfl, T0⟩
  case round =>
    obtain ⟨k, hk, rfl, ht⟩ := hrel
    clear T0
    obtain ⟨oa, ocap, rfl⟩ := row_of _ ht.own
    have x0 := cell_of (off := 0) (v := .slice a1 H.length c1) ht.box rfl
    have x1 := cell_of (off := 1) (v := .slice a2 H.length c2) ht.box rfl
    by_cases hlt : k < H.length
    · obtain ⟨g, rfl, hg, hcells⟩ := (HR.out.keys.ch ht.ch).cells (by omega)
      have d0 := hcells _ _ (keysH_get H k hlt)
      clear hcells
      obtain ⟨g2, rfl, hg2, hcells2⟩ := (HR.out.freed.ch ht.ch).cells (by omega)
      have d1 := hcells2 _ _ (freedH_get H k hlt)
      clear hcells2
      have HF := Lib.hid (allF_succ H k hlt)
      have hl1 := length_allF (H.take k)
      rw [List.length_take] at hl1
      have hso := Sl.of_row ht.own
      have HT := Lib.hid ht
      have HSO := Lib.hid hso
      clear ht hso
      generalize allF (H.take k) = O at *
      by_cases hfr : H[k].2.2 = true
      · rw [hfr] at d1
        have HE := Lib.hid hfr
        clear hfr
        go_wp2_with fail
        go_roundw
        case rel => exact ⟨k + 1, by omega, by go_num, by rw [HF.out, allS, if_pos (.inl HE.out)]; exact HT.out⟩
        case measure => simp [intOf]; omega
      · have hfr' : H[k].2.2 = false := by simpa using hfr
        rw [hfr'] at d1
        have HE := Lib.hid hfr
        clear hfr hfr'
        by_cases hmem : H[k].2.1 ∈ O
        · have HI := in_any (cap := ocap) (n := H[k].2.1) HSO.out
          rw [decide_eq_true hmem] at HI
          have HIN := Lib.hid HI
          have HM := Lib.hid hmem
          clear HI hmem
          go_wp2_with fail
          refine HIN.out.mono ?_
          rintro e w1 ⟨rfl, rfl⟩
          go_wp2_with fail
          go_roundw
          case rel => exact ⟨k + 1, by omega, by go_num, by rw [HF.out, allS, if_pos (.inr HM.out)]; exact HT.out⟩
          case measure => simp [intOf]; omega
        · have HI := in_any (cap := ocap) (n := H[k].2.1) HSO.out
          rw [decide_eq_false hmem] at HI
          have HIN := Lib.hid HI
          have HM := Lib.hid hmem
          clear HI hmem
          go_wp2_with fail
          refine HIN.out.mono ?_
          rintro e w1 ⟨rfl, rfl⟩
          go_wp2_with fail
          obtain ⟨wo, rfl⟩ : ∃ wo : World, wo = wr := ⟨_, rfl⟩
          go_loopw [5, 6, 7] (fun l put j wi => ∃ q : Nat, q ≤ O.length ∧ j = .int .i64 q ∧ put = .bool (insF H[k].2.1 (O.take q)).1 ∧ Ch (fun _ => False) wo wi ∧ wi.ownsRow wo.heap.size 2 1 l (insF H[k].2.1 (O.take q)).2.length (ints .i64 (insF H[k].2.1 (O.take q)).2)) (fun _ _ j _ => O.length - (intOf j).toNat)
          case atStart => exact ⟨0, Nat.zero_le _, rfl, rfl, Ch.refl _ _, World.ownsRow_nil _ _ _ _⟩
          case round =>
            obtain ⟨q, hq, rfl, rfl, hc, hown⟩ := hrel
            obtain ⟨la, lcap, rfl⟩ := row_of _ hown
            have hsz := hc.size
            have hT2 := HT.out.step hc
            have x0 := cell_of (off := 0) (v := .slice (some ⟨g, 0, none⟩) H.length c1) hT2.box rfl
            have d0 : wr.cell? ⟨g, k, none⟩ = some (.int .i64 H[k].2.1) := (hc.cell hg (fun h => h)).trans d0
            have ll := length_insF H[k].2.1 (O.take q)
            rw [List.length_take] at ll
            by_cases hql : q < O.length
            · obtain ⟨go, rfl, hgo, ocells⟩ := (HSO.out.ch hc).cells (by omega)
              have o0 := ocells _ _ (ints_get .i64 O q hql)
              have HQ := Lib.hid (insF_succ H[k].2.1 O q hql)
              have HC := Lib.hid hc
              have HO := Lib.hid hown
              clear ocells hc hown hT2
              cases hp : (insF H[k].2.1 (O.take q)).1 with
              | true =>
                have HP := Lib.hid hp
                clear hp
                go_wp2_with fail
                go_quiet (fail)
                go_wp2_with (at_builtin; refine wpList_append_own _ rfl _ _ 37 rfl wo.heap.size 2 i0 (.int .i64 0) 1 8 Try.underlying37 hi0 hz0 hz1 hz2 rfl (by decide) _ _ _ rfl ((ownsRow_drewN HO.out _).alloc _) ⟨wr.heap.size, 0, none⟩ 1 1 [.int .i64 O[q]] rfl rfl ?a1 ?a2 ?a3 ?a4 ?a5 ?_)
                case a1 => exact cell_one_new _ _ _
                case a2 => simp [Value.oneCell']
                case a3 => unfold maxLen; omega
                case a4 => omega
                case a5 => simp; omega
                intro v' w1 hown1 hgrow1 _
                go_wp2
                go_roundw
                case rel => exact ⟨q + 1, by omega, by go_num, by rw [HQ.out, insS_keep (.inl HP.out), HP.out], app_ch HC.out HO.out hgrow1, by rw [HQ.out, insS_keep (.inl HP.out), ints_append, List.length_append]; exact hown1⟩
                case measure => simp [intOf]; omega
              | false =>
                have HP := Lib.hid hp
                clear hp
                by_cases hgt : H[k].2.1 < O[q]
                · have HG := Lib.hid (show gtS O[q] H[k].2.1 = true from (gt_iff _ _).2 hgt)
                  go_wp2_with fail
                  go_quiet (fail)
                  go_wp2_with (at_builtin; refine wpList_append_own _ rfl _ _ 37 rfl wo.heap.size 2 i0 (.int .i64 0) 1 8 Try.underlying37 hi0 hz0 hz1 hz2 rfl (by decide) _ _ _ rfl ((ownsRow_drewN HO.out _).alloc _) ⟨wr.heap.size, 0, none⟩ 1 1 [.int .i64 H[k].2.1] rfl rfl ?b1 ?b2 ?b3 ?b4 ?b5 ?_)
                  case b1 => exact cell_one_new _ _ _
                  case b2 => simp [Value.oneCell']
                  case b3 => unfold maxLen; omega
                  case b4 => omega
                  case b5 => simp; omega
                  intro v' w1 hown1 hgrow1 _
                  have hc1 := app_ch HC.out HO.out hgrow1
                  obtain ⟨l1, lc1, hv1⟩ := row_of _ hown1
                  subst hv1
                  have HO1 := Lib.hid hown1
                  have HC1 := Lib.hid hc1
                  have hs1 := hc1.size
                  have o0 : w1.cell? ⟨go, q, none⟩ = some (.int .i64 O[q]) := by
                    obtain ⟨go', e', _, oc⟩ := (HSO.out.ch hc1).cells (by omega)
                    cases e'
                    exact oc _ _ (ints_get .i64 O q hql)
                  clear hown1 hc1 hgrow1
                  go_wp2_with (at_builtin; refine wpList_append_own _ rfl _ _ 37 rfl wo.heap.size 2 i0 (.int .i64 0) 1 8 Try.underlying37 hi0 hz0 hz1 hz2 rfl (by decide) _ _ _ rfl (HO1.out.alloc _) ⟨w1.heap.size, 0, none⟩ 1 1 [.int .i64 O[q]] rfl rfl ?c1 ?c2 ?c3 ?c4 ?c5 ?_)
                  case c1 => exact cell_one_new _ _ _
                  case c2 => simp [Value.oneCell']
                  case c3 => unfold maxLen; omega
                  case c4 => omega
                  case c5 => simp; omega
                  intro v2 w2 hown2 hgrow2 _
                  have hc2 := app_ch (k := 0) HC1.out HO1.out hgrow2
                  go_wp2
                  go_roundw
                  case rel => exact ⟨q + 1, by omega, by go_num, by rw [HQ.out, insS_put HP.out HG.out], hc2, by rw [HQ.out, insS_put HP.out HG.out, ints_append, ints_append, List.length_append, List.length_append, List.append_assoc]; exact hown2⟩
                  case measure => simp [intOf]; omega
                · have HG := Lib.hid (show gtS O[q] H[k].2.1 = false by simp [gtS]; omega)
                  go_wp2_with fail
                  go_quiet (fail)
                  go_wp2_with (at_builtin; refine wpList_append_own _ rfl _ _ 37 rfl wo.heap.size 2 i0 (.int .i64 0) 1 8 Try.underlying37 hi0 hz0 hz1 hz2 rfl (by decide) _ _ _ rfl ((ownsRow_drewN HO.out _).alloc _) ⟨wr.heap.size, 0, none⟩ 1 1 [.int .i64 O[q]] rfl rfl ?d1 ?d2 ?d3 ?d4 ?d5 ?_)
                  case d1 => exact cell_one_new _ _ _
                  case d2 => simp [Value.oneCell']
                  case d3 => unfold maxLen; omega
                  case d4 => omega
                  case d5 => simp; omega
                  intro v' w1 hown1 hgrow1 _
                  go_wp2
                  go_roundw
                  case rel => exact ⟨q + 1, by omega, by go_num, by rw [HQ.out, insS_keep (.inr HG.out), HP.out], app_ch HC.out HO.out hgrow1, by rw [HQ.out, insS_keep (.inr HG.out), ints_append, List.length_append]; exact hown1⟩
                  case measure => simp [intOf]; omega
            · obtain rfl : q = O.length := by omega
              have he : O.take O.length = O := List.take_length
              rw [he] at hown ll ⊢
              have HC := Lib.hid hc
              have HO := Lib.hid hown
              have HQ := HF.out
              rw [allS, if_neg (by rintro (h | h); exact HE.out h; exact HM.out h), ins] at HQ
              have HQQ := Lib.hid HQ
              clear hc hown hT2 he HQ
              cases hp : (insF H[k].2.1 O).1 with
              | true =>
                have HP := Lib.hid hp
                go_wp2_with fail
                go_roundw
                case rel => exact ⟨k + 1, by omega, by go_num, by rw [HQQ.out, if_pos HP.out]; exact HT.out.next HC.out HO.out⟩
                case measure => simp [intOf]; omega
              | false =>
                have HP := Lib.hid hp
                go_wp2_with (at_builtin; refine wpList_append_own _ rfl _ _ 37 rfl wo.heap.size 2 i0 (.int .i64 0) 1 8 Try.underlying37 hi0 hz0 hz1 hz2 rfl (by decide) _ _ _ rfl (HO.out.alloc _) ⟨wr.heap.size, 0, none⟩ 1 1 [.int .i64 H[k].2.1] rfl rfl ?e1 ?e2 ?e3 ?e4 ?e5 ?_)
                case e1 => exact cell_one_new _ _ _
                case e2 => simp [Value.oneCell']
                case e3 => unfold maxLen; omega
                case e4 => omega
                case e5 => simp; omega
                intro v' w1 hown1 hgrow1 _
                have hc1 := app_ch (k := 0) HC.out HO.out hgrow1
                go_wp2
                go_roundw
                case rel => exact ⟨k + 1, by omega, by go_num, by rw [HQQ.out, if_neg (by rw [HP.out]; decide)]; exact HT.out.next hc1 (by rw [ints_append, List.length_append]; exact hown1)⟩
                case measure => simp [intOf]; omega
    · obtain rfl : k = H.length := by omega
      have e : Hid (allF (H.take H.length) = allF H) := by unfold Hid; rw [List.take_length]
      have HT := Lib.hid ht
      clear ht
      rw [e.out] at HT ⊢
      have e := Sl.of_row HT.out.own
      go_wp2_with fail
      go_ret
      exact ⟨oa, ocap, rfl, e, HT.out.ch⟩
end Go.Proofs.Ytklnbfelcpnbeaa
