/- What ranges.Of does: the spans that have bytes, sorted, and merged where they meet. Conditions: the list lies in memory. -/
import Derived.Test.YtbgojgoejlhgeaaDoorH3
import Derived.Shelf.SlSortCmp.NoneTotal
namespace Go.Proofs.YtbgojgoejlhgeaaDoor.Pr
open Go.RowKit Go.Proofs.YtbgojgoejlhgeaaDoorW.PrintWords

theorem sortnil (fv : Value) (w : World) : Calls Tryd.prog 45 #[.slice none 0 0, fv] w fun e w' => e = .returned (.tuple #[]) ∧ w' = w := by
  have h := AnyF.slices_SortFunc_none Tryd.sortSpan none 0 fv w
  change Calls Tryd.prog 45 _ _ _ at h
  exact h
theorem add0 (g j : Nat) : (⟨g, 0, none⟩ : Addr).add j = ⟨g, j, none⟩ := by unfold Addr.add; split <;> simp_all
theorem row_nil {w : World} {base n : Nat} {v : Value} {xs : List Value} (h : w.ownsRow base 42 2 v n xs) (hn : n = 0) : v = .slice none 0 0 ∨ ∃ g c, v = .slice (some ⟨g, 0, none⟩) 0 c := by
  subst hn
  rcases h.2 with ⟨hv, _⟩ | ⟨g, cap, cur, hv, _⟩
  · exact .inl hv
  · exact .inr ⟨g, cap, hv⟩
theorem row_some {w : World} {base n : Nat} {v : Value} {xs : List Value} (h : w.ownsRow base 42 2 v n xs) (hn : 0 < n) : ∃ g c, v = .slice (some ⟨g, 0, none⟩) n c := by
  rcases h.2 with ⟨_, hz⟩ | ⟨g, cap, cur, hv, _⟩
  · omega
  · exact ⟨g, cap, hv⟩
/-- the result is written -/
theorem OF.out {w : World} {B : Nat} {v : Value} {l : List S42} {W : World} (h : OF w B v l W) : (W.setCell ⟨w.heap.size, 0, none⟩ v).cell? ⟨w.heap.size, 0, none⟩ = some v ∧
    Kd.R k42 42 (W.setCell ⟨w.heap.size, 0, none⟩ v) w.heap.size (fun _ => True) v l ∧ Below w.heap.size w (W.setCell ⟨w.heap.size, 0, none⟩ v) := by
  have hb : (W.setCell ⟨w.heap.size, 0, none⟩ v).heap[w.heap.size]? = some (.cells #[v] 29 (0, 0)) := by
    simp only [World.setCell, Array.getElem?_modify, ↓reduceIte, h.box, Option.map_some]
    simp
  exact ⟨cellO hb rfl, Kd.R_lower (R_of_own (own_setCell h.own (own_ne h.own h.box (by decide)) v)) (Nat.le_trans (Nat.le_succ _) h.base), h.below.setCell (by simp) _⟩
theorem ofL_nil {l : List S42} (h : [] = l.filter fun s => decide (ok2 s)) : ofL l = [] := by unfold ofL; rw [← h]; simp [mrg]
theorem own_last {w : World} {base g n c : Nat} {L : List S42} {a b : Int} (h : w.ownsRow base 42 2 (.slice (some ⟨g, 0, none⟩) n c) n (flat2 (L ++ [⟨a, b⟩]))) (b' : Int) :
    (w.setCell ⟨g, L.length * 2 + 1, none⟩ (.int .i64 b')).ownsRow base 42 2 (.slice (some ⟨g, 0, none⟩) n c) n (flat2 (L ++ [⟨a, b'⟩])) := by
  have e1 : ∀ x : Int, flat2 (L ++ [⟨a, x⟩]) = flat2 L ++ [.int .i64 a, .int .i64 x] := fun x => by rw [flat2_append]; rfl
  obtain ⟨h1, h2⟩ := h
  refine ⟨by rw [← h1, e1, e1]; simp, ?_⟩
  rcases h2 with ⟨hv, _⟩ | ⟨g', cap, cur, hv, hg, hh, h3, h4, h5, h6⟩
  · cases hv
  · cases hv
    refine .inr ⟨g, c, cur.setIfInBounds (L.length * 2 + 1) (.int .i64 b'), rfl, hg, ?_, h3, h4, by simpa using h5, ?_⟩
    · simp only [World.setCell, Array.getElem?_modify, ↓reduceIte, hh, Option.map_some]
      simp
    · rw [Array.toList_setIfInBounds, List.take_set, h6, e1, e1]
      rw [List.set_append_right _ _ (by rw [flat2_length]; omega), flat2_length, show L.length * 2 + 1 - L.length * 2 = 1 by omega]
      rfl
theorem OF.last {w : World} {B g c : Nat} {L : List S42} {t : S42} {W : World} (h : OF w B (.slice (some ⟨g, 0, none⟩) (L.length + 1) c) (L ++ [t]) W) (b' : Int) :
    OF w B (.slice (some ⟨g, 0, none⟩) (L.length + 1) c) (L ++ [⟨t.f0, b'⟩]) (W.setCell ⟨g, L.length * 2 + 1, none⟩ (.int .i64 b')) := by
  have own : W.ownsRow B 42 2 (.slice (some ⟨g, 0, none⟩) (L.length + 1) c) (L.length + 1) (flat2 (L ++ [t])) := by
    have := h.own; rwa [show (L ++ [t]).length = L.length + 1 by simp] at this
  have hb := Nat.le_trans h.base (own_base own g rfl)
  exact ⟨by rw [Below.heap_setCell _ _ _ _ (by simp; omega)]; exact h.box, h.below.setCell (by simp; omega) _, by rw [show (L ++ [(⟨t.f0, b'⟩ : S42)]).length = L.length + 1 by simp]; exact own_last own b', h.base⟩
theorem OF.free {w : World} {B g n c : Nat} {l : List S42} {W : World} (h : OF w B (.slice (some ⟨g, 0, none⟩) n c) l W) (o : Nat) : W.frozen? ⟨g, o, none⟩ = false := by
  rcases h.own.2 with ⟨hv, _⟩ | ⟨g', cap, cur, hv, hg, hh, _⟩
  · cases hv
  · cases hv; exact frozenO hh
theorem belowN (w : World) (n : Nat) : Below w.heap.size w (w.drewN n) := ⟨rfl, rfl, rfl, Nat.le_refl _, fun _ _ => rfl⟩
/-- nothing was kept: the row is still nil -/
structure OF1 (w : World) (B : Nat) (v : Value) (l : List S42) (W : World) : Prop where
  of : OF w B v l W
  nil : l = [] → v = .slice none 0 0

set_option maxRecDepth 100000 in
set_option maxHeartbeats 2000000 in
theorem of29 {A : Option Addr} {l : List S42} {c : Nat} {w : World} (h : Kd.C k42 w A l.length l) (hm : l.length < 8796093022208) :
    Calls Tryd.prog 29 #[.slice A l.length c] w fun e w' => ∃ v0_ : Value, e = .returned (.agg #[v0_]) ∧ Kd.R k42 42 w' w.heap.size (fun _ => True) v0_ (ofL l) ∧ Below w.heap.size w w' := by
  obtain ⟨i0, hi0, hz0, hz1, hz2⟩ := info_parts info42
  have HC := Lib.hid h
  have S0 : Hid (OF1 w (w.heap.size + 1) (.slice none 0 0) [] (w.alloc (.cells #[.slice none 0 0] 29))) := ⟨⟨by show (w.heap.push _)[w.heap.size]? = _; simp, (Below.refl _ w).alloc (Nat.le_refl _) _, World.ownsRow_nil _ _ _ _, Nat.le_refl _⟩, fun _ => rfl⟩
  clear h
  go_enter Tryd.func29, Tryd.ntmps29
  go_wp2_with fail
  go_loopw [12, 3, 5] (fun i v _ wr => ∃ k : Nat, k ≤ l.length ∧ i = .int .i64 k ∧ Hid (OF1 w (w.heap.size + 1) v ((l.take k).filter fun s => decide (ok2 s)) wr)) (fun i _ _ _ => l.length - (intOf i).toNat)
  case atStart => exact ⟨0, Nat.zero_le _, rfl, S0⟩
  case round =>
    obtain ⟨k, hk, rfl, HS⟩ := hrel
    clear S0
    by_cases hlt : k < l.length
    · obtain ⟨ad, rfl, h0, h1⟩ := at_T42 (Kd.C_below HC.out HS.out.of.below) k (by omega) (by omega)
      rw [Int.toNat_natCast] at h0 h1
      rw [rd_getElem l k hlt] at h0 h1
      have HN := Lib.hid HS.out.nil
      have HS1 := Lib.hid (HS.out.of.step ((Below.refl _ wr).alloc (Nat.le_refl _) (.cells #[.int .i64 l[k].f0, .int .i64 l[k].f1] 42)))
      have fl := List.length_filter_le (fun s => decide (ok2 s)) (l.take k)
      rw [List.length_take] at fl
      by_cases hok : okS l[k]
      · have HR := right44 l[k]
        rw [decide_eq_true hok] at HR
        have HRR := Lib.hid HR
        clear HR HS
        go_wp2_with fail
        refine (HRR.out _).mono ?_
        rintro e w1 ⟨rfl, hb⟩
        have bx := blk_of (new_obj wr (.cells #[.int .i64 l[k].f0, .int .i64 l[k].f1] 42)) hb
        have q0 := cellO (off := 0) (v := .int .i64 l[k].f0) bx rfl
        have q1 := cellO (off := 1) (v := .int .i64 l[k].f1) bx rfl
        have HS2 := Lib.hid (HS1.out.step hb)
        clear hb bx HS1
        by_cases h2 : l[k].f0 < l[k].f1
        · have HF := Lib.hid (filter_yes hlt (show ok2 l[k] from ⟨hok.1, h2, hok.2.2⟩))
          clear hok
          clear HN
          generalize (l.take k).filter (fun s => decide (ok2 s)) = F at HS2 HF fl
          go_wp2_with (at_builtin; refine wpList_append_own _ rfl _ _ 22 rfl (w.heap.size + 1) 42 i0 (.agg #[(.int .i64 0), (.int .i64 0)]) 2 16 Tryd.underlying22 hi0 hz0 hz1 hz2 rfl (by decide) _ _ _ rfl (HS2.out.own.alloc _) ⟨w1.heap.size, 0, none⟩ 1 1 [.int .i64 l[k].f0, .int .i64 l[k].f1] rfl rfl ?a1 ?a2 ?a3 ?a4 ?a5 ?_)
          case a1 => exact cells2_new _ _ _ _
          case a2 => simp [Value.oneCell']
          case a3 => unfold maxLen; omega
          case a4 => omega
          case a5 => have := HS2.out.size; simp; omega
          intro v' w2 hown hgrow _
          have HS3 := OF.push (l' := F ++ [l[k]]) (HS2.out.step ((Below.refl _ w1).alloc (Nat.le_refl _) _)) hgrow (by rw [List.length_append, flat2_append]; exact hown)
          have HS3' : OF1 w (w.heap.size + 1) v' (F ++ [l[k]]) w2 := ⟨HS3, fun e => by simp at e⟩
          rw [← HF.out] at HS3'
          have HS4 := Lib.hid HS3'
          clear HS3'
          clear HS3 hown hgrow
          go_wp2_with fail
          go_roundw
          case rel => exact ⟨k + 1, by omega, by go_num, HS4⟩
          case measure => simp [intOf]; omega
        · have HF := Lib.hid (filter_no hlt (fun h : ok2 l[k] => h2 h.2.1))
          clear hok
          go_wp2_with fail
          go_roundw
          case rel => exact ⟨k + 1, by omega, by go_num, by rw [HF.out]; exact ⟨HS2.out, HN.out⟩⟩
          case measure => simp [intOf]; omega
      · have HR := right44 l[k]
        rw [decide_eq_false hok] at HR
        have HRR := Lib.hid HR
        have HF := Lib.hid (filter_no hlt (fun h : ok2 l[k] => hok h.okS))
        clear HR HS hok
        go_wp2_with fail
        refine (HRR.out _).mono ?_
        rintro e w1 ⟨rfl, hb⟩
        have HS2 := Lib.hid (HS1.out.step hb)
        clear hb HS1
        go_wp2_with fail
        go_roundw
        case rel => exact ⟨k + 1, by omega, by go_num, by rw [HF.out]; exact ⟨HS2.out, HN.out⟩⟩
        case measure => simp [intOf]; omega
    · obtain rfl : k = l.length := by omega
      rw [List.take_length] at HS
      obtain ⟨F, hF⟩ : ∃ F, F = l.filter fun s => decide (ok2 s) := ⟨_, rfl⟩
      rw [← hF] at HS
      have hFl : F.length ≤ l.length := by rw [hF]; exact List.length_filter_le _ _
      have HFE := Lib.hid hF
      clear hF
      by_cases hn : F.length = 0
      · obtain rfl : F = [] := List.eq_nil_of_length_eq_zero hn
        obtain rfl := HS.out.nil rfl
        have HO := Lib.hid HS.out.of
        have b0 := cellO (off := 0) (v := .slice none 0 0) HO.out.box rfl
        have f0 := frozenO (off := 0) HO.out.box
        obtain ⟨u0, u1, u2⟩ := HO.out.out
        have U := Lib.hid (And.intro u1 u2)
        clear u1 u2
        have e0 : Hid (ofL l = []) := ofL_nil HFE.out
        go_wp2_with fail
        refine (sortnil _ _).mono ?_
        rintro e w1 ⟨rfl, rfl⟩
        go_wp2_with fail
        refine wp_loop_rounds 1 ?_
        rw [rounds_succ]
        go_wp2_with fail
        refine bodyPost_ret (v := .agg #[.slice none 0 0]) (by simp [results, Tryd.results29, go_sem, u0]) rfl ⟨_, rfl, by rw [e0.out]; exact U.out.1, U.out.2⟩
      · obtain ⟨g, c2, rfl⟩ := row_some HS.out.of.own (by omega)
        have HSO := Lib.hid (sort45 HS.out.of.own (by omega) (by omega))
        go_wp2_with fail
        refine HSO.out.mono ?_
        rintro e w1 ⟨rfl, d, hp, hs, hc, hg⟩
        have hlen : d.length = F.length := hp.length_eq
        rw [hlen] at hc
        have h0 : OF w (w.heap.size + 1) (.slice none 0 0) [] w1 := OF.push HS.out.of hg (World.ownsRow_nil _ _ _ _)
        have h1 : OF w w1.heap.size (.slice none 0 0) [] w1 := ⟨h0.box, h0.below, World.ownsRow_nil _ _ _ _, h0.size⟩
        clear h0
        have H1 := Lib.hid h1
        have HCd := Lib.hid hc
        have HPS := Lib.hid (And.intro hp hs)
        have HLN := Lib.hid hlen
        clear hp hs hc hg h1 HSO HS hlen
        go_wp2_with fail
        go_loopw [34, 6, 8, 9] (fun i v _ _ wr => ∃ k : Nat, k ≤ F.length ∧ i = .int .i64 k ∧ Hid (OF w w1.heap.size v (mrg (d.take k)) wr) ∧ Hid (Below w1.heap.size w1 wr)) (fun i _ _ _ _ => F.length - (intOf i).toNat)
        case atStart => exact ⟨0, Nat.zero_le _, rfl, H1, Below.refl _ _⟩
        case round =>
          obtain ⟨k, hk, rfl, HS, HB⟩ := hrel
          clear H1
          by_cases hlt : k < F.length
          · obtain ⟨ad, ea, h0, h1⟩ := at_T42 (Kd.C_below HCd.out HB.out) k (by omega) (by omega)
            cases ea
            rw [Int.toNat_natCast] at h0 h1
            simp only [add0] at h0 h1
            have hdl : k < d.length := by have := HLN.out; omega
            rw [rd_getElem d k hdl] at h0 h1
            have HM := Lib.hid (show mrg (d.take (k + 1)) = mrgS (mrg (d.take k)) d[k] by rw [List.take_succ_eq_append_getElem hdl, mrg_snoc])
            have hml := (mrg_spec (d.take k) (fun s hs => by have := HPS.out.1.mem_iff.1 (List.mem_of_mem_take hs); rw [HFE.out] at this; simpa using (List.mem_filter.1 this).2) (HPS.out.2.sublist (List.take_sublist _ _))).2.2.1
            rw [List.length_take] at hml
            have HS1 := Lib.hid (HS.out.step ((Below.refl _ wr).alloc (Nat.le_refl _) (.cells #[.int .i64 d[k].f0, .int .i64 d[k].f1] 42)))
            have HB1 := Lib.hid (HB.out.alloc HB.out.size (.cells #[.int .i64 d[k].f0, .int .i64 d[k].f1] 42))
            generalize mrg (d.take k) = M at *
            clear HS HB
            have BXO := Lib.hid (new_obj wr (.cells #[.int .i64 d[k].f0, .int .i64 d[k].f1] 42))
            have q0 := cellO (off := 0) (v := .int .i64 d[k].f0) BXO.out rfl
            have q1 := cellO (off := 1) (v := .int .i64 d[k].f1) BXO.out rfl
            rcases List.eq_nil_or_concat M with rfl | ⟨L, t, he⟩
            · obtain ⟨va, vc, rfl⟩ := own_slice HS1.out.own
              go_wp2_with fail
              generalize (wr.alloc (.cells #[.int .i64 d[k].f0, .int .i64 d[k].f1] 42)) = W1 at HS1 HB1 BXO q0 q1 ⊢
              go_quiet (fail)
              obtain ⟨HS2, HB2, BX2⟩ := And.intro (Lib.hid (HS1.out.step (belowN W1 nq))) (And.intro (Lib.hid (HB1.out.trans ((belowN W1 nq).mono HB1.out.size))) (Lib.hid (show (W1.drewN nq).heap[wr.heap.size]? = _ from BXO.out)))
              go_wp2_with (at_builtin; refine wpList_append_own _ rfl _ _ 22 rfl w1.heap.size 42 i0 (.agg #[(.int .i64 0), (.int .i64 0)]) 2 16 Tryd.underlying22 hi0 hz0 hz1 hz2 rfl (by decide) _ _ _ rfl (HS2.out.own.alloc _) ⟨W1.heap.size, 0, none⟩ 1 1 [.int .i64 d[k].f0, .int .i64 d[k].f1] rfl rfl ?a1 ?a2 ?a3 ?a4 ?a5 ?_)
              case a1 => exact cells2_new (W1.drewN nq) _ _ _
              case a2 => simp [Value.oneCell']
              case a3 => simp [maxLen]
              case a4 => simp
              case a5 => have := HB2.out.size; simp at this ⊢; omega
              intro v' w2 hown hgrow _
              have HS3 := OF.push (l' := [] ++ [d[k]]) (HS2.out.step ((Below.refl _ (W1.drewN nq)).alloc (Nat.le_refl _) _)) hgrow (by rw [List.length_append, flat2_append]; exact hown)
              have HB3 := Lib.hid (HB2.out.alloc HB2.out.size (.cells #[.int .i64 d[k].f0, .int .i64 d[k].f1] 42) |>.grown hgrow (by have := HB2.out.size; simp at this ⊢; omega) (fun j hj => own_base HS2.out.own j hj))
              rw [show [] ++ [d[k]] = mrg (d.take (k + 1)) by rw [HM.out]; rfl] at HS3
              have HS4 := Lib.hid HS3
              clear HS3 hown hgrow
              go_wp2_with fail
              go_roundw
              case rel => exact ⟨k + 1, by omega, by go_num, HS4, HB3⟩
              case measure => simp [intOf]; omega
            · obtain rfl : M = L ++ [t] := by simpa using he
              clear he
              obtain ⟨va, vc, ev⟩ := row_some HS1.out.own (by simp)
              obtain ⟨ad2, ea2, g0, g1⟩ := at_T42 (C_of_own (A := some ⟨va, 0, none⟩) (c := vc) (by rw [← ev]; exact HS1.out.own)) L.length (by omega) (by simp; omega)
              cases ea2
              rw [show (L ++ [t]).length = L.length + 1 by simp] at ev
              subst ev
              have hL3 : L.length < 8796093022208 := by simp at hml; omega
              rw [Int.toNat_natCast] at g0 g1
              simp only [add0] at g0 g1
              rw [rd_getElem (L ++ [t]) L.length (by simp)] at g0 g1
              simp only [List.getElem_concat_length] at g0 g1
              by_cases hle : d[k].f0 ≤ t.f1
              · have HLE := Lib.hid hle
                go_wp2_with fail
                generalize (wr.alloc (.cells #[.int .i64 d[k].f0, .int .i64 d[k].f1] 42)) = W1 at HS1 HB1 BXO q0 q1 g0 g1 ⊢
                go_quiet (fail)
                go_wp2_with fail
                have HS2 := Lib.hid (HS1.out.step (belowN W1 nq))
                have HB2 := Lib.hid (HB1.out.trans ((belowN W1 nq).mono HB1.out.size))
                have fz : (W1.drewN nq).frozen? ⟨va, L.length * 2 + 1, none⟩ = false := HS2.out.free _
                generalize hW2 : W1.drewN nq = W2 at HS2 HB2 fz ⊢
                have g1' : W2.cell? ⟨va, L.length * 2 + 1, none⟩ = some (.int .i64 t.f1) := by rw [← hW2]; exact g1
                have q1' : W2.cell? ⟨wr.heap.size, 1, none⟩ = some (.int .i64 d[k].f1) := by rw [← hW2]; exact q1
                clear hW2 g0 g1 q0 q1 h0 h1 HS1 HB1 BXO
                go_region
                all_goals
                  go_wp2_with fail
                  refine ⟨⟨k + 1, by omega, by go_num, ?_, ?_⟩, by simp [intOf]; omega⟩
                  · rw [HM.out, mrgS_snoc, if_pos HLE.out]
                    exact (OF.last HS2.out _).step (belowN _ 1)
                  · exact (HB2.out.setCell (own_base HS2.out.own va rfl) _).trans ((belowN _ 1).mono (by simp; exact HB2.out.size))
              · have HNL := Lib.hid hle
                go_wp2_with fail
                generalize (wr.alloc (.cells #[.int .i64 d[k].f0, .int .i64 d[k].f1] 42)) = W1 at HS1 HB1 BXO q0 q1 g0 g1 ⊢
                go_quiet (fail)
                obtain ⟨HS2, HB2, BX2⟩ := And.intro (Lib.hid (HS1.out.step (belowN W1 nq))) (And.intro (Lib.hid (HB1.out.trans ((belowN W1 nq).mono HB1.out.size))) (Lib.hid (show (W1.drewN nq).heap[wr.heap.size]? = _ from BXO.out)))
                go_wp2_with (at_builtin; refine wpList_append_own _ rfl _ _ 22 rfl w1.heap.size 42 i0 (.agg #[(.int .i64 0), (.int .i64 0)]) 2 16 Tryd.underlying22 hi0 hz0 hz1 hz2 rfl (by decide) _ _ _ rfl (HS2.out.own.alloc _) ⟨W1.heap.size, 0, none⟩ 1 1 [.int .i64 d[k].f0, .int .i64 d[k].f1] rfl rfl ?b1 ?b2 ?b3 ?b4 ?b5 ?_)
                case b1 => exact cells2_new (W1.drewN nq) _ _ _
                case b2 => simp [Value.oneCell']
                case b3 => have : (L ++ [t]).length = L.length + 1 := by simp
                           unfold maxLen; omega
                case b4 => have : (L ++ [t]).length = L.length + 1 := by simp
                           omega
                case b5 => have := HB2.out.size; simp at this ⊢; omega
                intro v' w2 hown hgrow _
                have HS3 := OF.push (l' := (L ++ [t]) ++ [d[k]]) (HS2.out.step ((Below.refl _ (W1.drewN nq)).alloc (Nat.le_refl _) _)) hgrow (by rw [flat2_append, show (L ++ [t] ++ [d[k]]).length = L.length + 1 + 1 by simp]; exact hown)
                have HB3 := Lib.hid (HB2.out.alloc HB2.out.size (.cells #[.int .i64 d[k].f0, .int .i64 d[k].f1] 42) |>.grown hgrow (by have := HB2.out.size; simp at this ⊢; omega) (fun j hj => own_base HS2.out.own j hj))
                rw [show (L ++ [t]) ++ [d[k]] = mrg (d.take (k + 1)) by rw [HM.out]; rw [mrgS_snoc, if_neg (by have := HNL.out; omega)]] at HS3
                have HS4 := Lib.hid HS3
                clear HS3 hown hgrow
                go_wp2_with fail
                go_roundw
                case rel => exact ⟨k + 1, by omega, by go_num, HS4, HB3⟩
                case measure => simp [intOf]; omega
          · obtain rfl : k = F.length := by omega
            have e0 : Hid (mrg (d.take F.length) = ofL l) := by
              unfold Hid
              rw [← HLN.out, List.take_length]
              exact ofL_eq (by rw [← HFE.out]; exact HPS.out.1) HPS.out.2
            have HO := HS
            have b0 := cellO (off := 0) (v := .slice none 0 0) HO.out.box rfl
            have f0 := frozenO (off := 0) HO.out.box
            obtain ⟨v, c3, rfl⟩ := own_slice HO.out.own
            obtain ⟨u0, u1, u2⟩ := HO.out.out
            have U := Lib.hid (And.intro u1 u2)
            clear u1 u2 HO HS
            generalize mrg (d.take F.length) = M at *
            go_wp2_with fail
            refine bodyPost_ret (v := .agg #[.slice v M.length c3]) (by simp [results, Tryd.results29, go_sem, u0]) rfl ⟨_, rfl, by rw [← e0.out]; exact U.out.1, U.out.2⟩

def ranges_Of.f (l0 : List S42) : Option (List S42) := if l0.length < 8796093022208 then some (ofL l0) else none
theorem ranges_Of.calls (A0 : Option Addr) (c0 : Nat) (l0 : List (S42)) (r : List (S42)) (w : World) (hr0 : Kd.C k42 w A0 l0.length l0) (_hc0 : l0.length ≤ c0) (h : ranges_Of.f l0 = some r) :
    Calls Tryd.prog 29 #[.slice A0 l0.length c0] w fun e w' => ∃ v0_ : Value, e = .returned (.agg #[v0_]) ∧ Kd.R k42 42 w' w.heap.size (fun _ => True) v0_ r ∧ Below w.heap.size w w' := by
  unfold ranges_Of.f at h
  split at h
  · rename_i hh
    obtain rfl := Option.some.inj h
    exact of29 hr0 hh
  · cases h
end Go.Proofs.YtbgojgoejlhgeaaDoor.Pr
