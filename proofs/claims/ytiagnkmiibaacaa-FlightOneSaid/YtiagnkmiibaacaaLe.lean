/- What the calls on a table do: Leave. Conditions: the table lies in memory. -/
import Derived.Test.YtiagnkmiibaacaaQu
namespace Go.Proofs.Ytiagnkmiibaacaa
open Go.RowKit Go.Maps Go.ChangeMaps Go.WideMaps Go.Sort
/-- who waits are few, each once -/
def GL (L : List FT) : Prop := ∀ t ∈ L, t.who.length < 1000000 ∧ t.who.Nodup
theorem without_out {l : List Int} {x : Int} (h : x ∉ l) : without l x = l := List.filter_eq_self.2 fun y hy => by
  simp only [decide_eq_true_eq]; exact fun e => h (e ▸ hy)
theorem dropW_out {x : Int} {t : FT} (h : x ∉ t.who) : dropW x t = t := by unfold dropW; rw [without_out h]
def goneB (x : Int) (t : FT) : Bool := t.who.contains x && decide (without t.who x = [])
def goneL (L : List FT) (x : Int) : List Int := (L.filter (goneB x)).map FT.id
theorem goneL_snoc (L : List FT) (t : FT) (x : Int) : goneL (L ++ [t]) x = goneL L x ++ if goneB x t then [t.id] else [] := by
  unfold goneL
  rw [List.filter_append, List.map_append]
  by_cases h : goneB x t = true <;> simp [h]
theorem goneL_len (L : List FT) (x : Int) : (goneL L x).length ≤ L.length := by
  unfold goneL; rw [List.length_map]; exact List.length_filter_le _ _
theorem find_mem {L : List FT} (h : L.Pairwise (fun a b => a.id < b.id)) {t : FT} (ht : t ∈ L) : find L t.id = some t := by
  cases hf : find L t.id with
  | none => exact absurd rfl (find_none hf t ht)
  | some u =>
    obtain ⟨hu, e⟩ := find_some hf
    rw [uniq h hu ht e]
def mid (L : List FT) (x : Int) (k : Nat) : List FT := (L.take k).map (dropW x) ++ L.drop k
theorem upd_out {L : List FT} {n : Int} {g : FT → FT} (h : ∀ t ∈ L, t.id ≠ n) : upd L n g = L := by
  unfold upd
  rw [List.map_congr_left (g := id) fun t ht => by rw [if_neg (h t ht)]; rfl]
  simp
theorem mid_step {L : List FT} (h : L.Pairwise (fun a b => a.id < b.id)) {x : Int} {k : Nat} (hk : k < L.length) : L[k] ∈ mid L x k ∧ upd (mid L x k) L[k].id (dropW x) = mid L x (k + 1) := by
  have hp := List.pairwise_iff_getElem.1 h
  have hd : L.drop k = L[k] :: L.drop (k + 1) := List.drop_eq_getElem_cons hk
  refine ⟨by unfold mid; rw [hd]; exact List.mem_append_right _ (List.mem_cons_self ..), ?_⟩
  have h1 : ∀ t ∈ (L.take k).map (dropW x), t.id ≠ L[k].id := by
    intro t ht
    obtain ⟨u, hu, rfl⟩ := List.mem_map.1 ht
    obtain ⟨i, hi, rfl⟩ := List.mem_iff_getElem.1 hu
    rw [List.length_take] at hi
    have := hp i k (by omega) hk (by omega)
    rw [List.getElem_take]
    show L[i].id ≠ L[k].id
    omega
  have h2 : ∀ t ∈ L.drop (k + 1), t.id ≠ L[k].id := by
    intro t ht
    obtain ⟨i, hi, rfl⟩ := List.mem_iff_getElem.1 ht
    rw [List.length_drop] at hi
    have := hp k (k + 1 + i) hk (by omega) (by omega)
    rw [List.getElem_drop]
    omega
  unfold mid
  rw [hd]
  show upd ((L.take k).map (dropW x) ++ ([L[k]] ++ L.drop (k + 1))) L[k].id (dropW x) = _
  have ha : ∀ (a b : List FT) (n : Int) (g : FT → FT), upd (a ++ b) n g = upd a n g ++ upd b n g := fun a b n g => by unfold upd; rw [List.map_append]
  rw [ha, ha, upd_out h1, upd_out h2, take_snocF L k hk, List.map_append]
  simp [upd]
theorem mid_all (L : List FT) (x : Int) : mid L x L.length = L.map (dropW x) := by unfold mid; simp
theorem mid_none (L : List FT) (x : Int) : mid L x 0 = L := by unfold mid; simp
section
variable {F : Nat → Prop} {p m : Nat} {last : Int} {L : List FT} {N : Nat} {K : KM} {V : Int → Value} {w w' : World} {n : Int}
theorem quit_any (h : FS F p m last L N K V w) (hw : (Lit.int .i64 n).wf = true) {t : FT} (hf : find L n = some t) (ht : t.who.length < 1000000) (hnd : t.who.Nodup) (x : Int) :
    Calls Try.prog 45 #[.pointer (some ⟨p, 0, none⟩), .int .i64 n, .int .i64 x] w fun e w' => e = .returned (.bool (goneB x t)) ∧ ∃ V', FS F p m last (upd L n (dropW x)) N K V' w' ∧ Tn F F w w' := by
  by_cases hx : x ∈ t.who
  · refine (quit_yes h hw hf ht hnd x hx).mono fun e w' ⟨he, hr⟩ => ⟨?_, hr⟩
    rw [he]; unfold goneB; simp [hx]
  · refine (quit_out h hw hf ht x hx).mono ?_
    rintro e w' ⟨rfl, rfl⟩
    have e1 : upd L n (dropW x) = L := by
      unfold upd
      rw [List.map_congr_left (g := id) fun u hu => ?_]
      · simp
      · by_cases e : u.id = n
        · rw [if_pos e]
          obtain ⟨h1, h2⟩ := find_some hf
          rw [uniq h.up hu h1 (e.trans h2.symm)]
          exact dropW_out hx
        · rw [if_neg e]; rfl
    refine ⟨by unfold goneB; simp [hx], V, by rw [e1]; exact h, Tn.same (Ch.refl _ _)⟩
theorem numbers_new (h : FS F p m last L N K V w) (hN : N < 1000000) :
    Calls Try.prog 42 #[.pointer (some ⟨p, 0, none⟩)] w fun e w' => ∃ A c, e = .returned (.slice A (ids L).length c) ∧ IS w' A (ids L) ∧ Below w.heap.size w w' ∧ ∀ g o, A = some ⟨g, o, none⟩ → w.heap.size ≤ g := by
  obtain ⟨D, hm, hr⟩ := h.map
  have hsz := hm.size_le
  have cS := Try.sortedCall m N D Rk w hm (by unfold maxLen; omega) (by omega)
  have c1 := h.c1
  have HK : Hid (∀ x, x ∈ intKeys D ↔ x ∈ ids L) := fun x => by
    rw [mem_intKeys hm Try.underlying2, hr.has, K_some h]; simp
  have HN := Lib.hid (intKeys_nodup hm law2 Try.underlying2)
  have HU := Lib.hid (ids_up h)
  clear hm hr h
  refine (callsIn_wide (n := 6)).1 ?_
  have hfK : Fence.wide.fn 62 := trivial
  have hfS : Fence.wide.fn 61 := trivial
  refine callsIn_of_wp Try.func42 rfl trivial ?_ rfl
  simp only [Try.ntmps42, List.size_toArray, List.length_cons, List.length_nil, Nat.reduceAdd, Nat.reduceSub, Array.replicate_succ, Array.replicate_zero, List.push_toArray, List.append_toArray, List.nil_append, List.cons_append]
  gi_wp2_with (first
    | (gi_at_call 62; refine (Try.keysCall _ _).mono ?_; rintro e w' ⟨rfl, rfl⟩)
    | (gi_at_call 61; refine cS.mono ?_; rintro e w' ⟨v, ss, rfl, hS, hrow, hnil, hb⟩))
  go_ret
  have e1 : ss.mergeSort (fun x y => decide (x ≤ y)) = ids L := by
    have hp := List.mergeSort_perm ss (fun x y : Int => decide (x ≤ y))
    have hs := List.pairwise_mergeSort (le := fun x y : Int => decide (x ≤ y)) (by intro a b c h1 h2; simp at *; omega) (by intro a b; simp; omega) ss
    have hn : (ss.mergeSort (fun x y => decide (x ≤ y))).Nodup := hp.nodup_iff.2 (hS.nodup_iff.2 HN.out)
    refine up_uniq ((hs.and hn).imp fun {a b} hab => ?_) HU.out fun x => ?_
    · have h1 : a ≤ b := by simpa using hab.1
      have := hab.2
      omega
    · rw [hp.mem_iff, hS.mem_iff, HK.out]
  have e2 : ss.length = (ids L).length := by rw [← e1]; simp
  rw [e1, e2] at hrow
  obtain ⟨A, c, rfl⟩ := row_slice hrow
  refine ⟨A, c, rfl, IS.of_row hrow, ((Below.refl _ w).alloc (Nat.le_refl _) _).trans (hb.mono (by simp)), fun g o hA => ?_⟩
  subst hA
  rcases hrow.2 with ⟨h2, _⟩ | ⟨g', cap', cur, hv, hbg, _⟩
  · cases h2
  · cases hv
    simp at hbg; omega
theorem GL.mid (h : GL L) (x : Int) (k : Nat) : GL (mid L x k) := by
  intro t ht
  rcases List.mem_append.1 ht with ht | ht
  · obtain ⟨u, hu, rfl⟩ := List.mem_map.1 ht
    obtain ⟨h1, h2⟩ := h u (List.mem_of_mem_take hu)
    exact ⟨Nat.lt_of_le_of_lt (List.length_filter_le _ _) h1, h2.filter _⟩
  · exact h t (List.mem_of_mem_drop ht)
set_option maxRecDepth 100000 in
set_option maxHeartbeats 2000000 in
theorem leave_any (h : FS F p m last L N K V w) (hN : N < 1000000) (hlast : last < 1000000) (hL : L.length < 1000000) (hg : GL L) (x : Int) :
    Calls Try.prog 21 #[.pointer (some ⟨p, 0, none⟩), .int .i64 x] w fun e w' => ∃ A c V', e = .returned (.slice A (goneL L x).length c) ∧ IS w' A (goneL L x) ∧ FS F p m last (L.map (dropW x)) N K V' w' ∧ Tn F F w w' := by
  have HH := Lib.hid h
  have HLa := Lib.hid hlast
  have HLn := Lib.hid hL
  have HG := Lib.hid hg
  clear h hlast hL hg
  obtain ⟨i0, hi0, hz0, hz1, hz2⟩ := info_parts info2
  go_enter Try.func21, Try.ntmps21
  go_wp2_with (go_at_call 42; refine (numbers_new HH.out hN).mono ?_; rintro e w2 ⟨A, c, rfl, hA, hb, hnew⟩)
  have HW := Lib.hid (HH.out.below hb)
  have HA := Lib.hid hA
  have HB := Lib.hid hb
  have HNw := Lib.hid hnew
  have HFl : Hid (∀ k, F k → k < w.heap.size) := HH.out.lt
  have HUp := Lib.hid HH.out.up
  clear hA hb HH hnew
  go_loopw [5, 11] (fun v i wr => ∃ (k : Nat) (V' : Int → Value), k ≤ L.length ∧ i = .int .i64 k ∧ Hid (wr.ownsRow w2.heap.size 2 1 v (goneL (L.take k) x).length (ints (goneL (L.take k) x))) ∧ Hid (FS F p m last (mid L x k) N K V' wr) ∧ Hid (Ch F w2 wr)) (fun _ i _ => L.length - (intOf i).toNat)
  case atStart => exact ⟨0, V, Nat.zero_le _, rfl, ⟨by simp, .inl ⟨rfl, by simp [goneL]⟩⟩, by rw [mid_none]; exact HW, Ch.refl _ _⟩
  case round =>
    obtain ⟨k, V', hk, rfl, HO, HS, HR⟩ := hrel
    by_cases hlt : k < L.length
    · have hk9 : k < 1000000 := by have := HLn.out; omega
      have hms := mid_step HUp.out (x := x) hlt
      have hfind : find (mid L x k) L[k].id = some L[k] := find_mem HS.out.up hms.1
      have hgk := (HG.out.mid x k) L[k] hms.1
      have hwf := wf_id HS.out HLa.out hms.1
      obtain ⟨g, o, hAe, hg, hcell⟩ := HA.out k (by simpa using hlt)
      subst hAe
      have hid : (ids L)[k]'(by simpa using hlt) = L[k].id := by simp
      rw [hid] at hcell
      have hnF : ¬ F g := fun hF => by have := HFl.out g hF; have := HNw.out g o rfl; omega
      have hcell2 : wr.cell? ⟨g, o + k, none⟩ = some (.int .i64 L[k].id) := (HR.out.cell hg hnF).trans hcell
      have hT : Hid (goneL (L.take (k + 1)) x = goneL (L.take k) x ++ if goneB x L[k] then [L[k].id] else []) := by
        show _ = _
        rw [take_snocF L k hlt, goneL_snoc]
      have HQ := Lib.hid (quit_any HS.out hwf hfind hgk.1 hgk.2 x)
      have HMS := Lib.hid hms.2
      have hlenW := goneL_len (L.take k) x
      rw [List.length_take] at hlenW
      clear hms hfind hgk hwf hcell hid hg hnF
      generalize L[k].id = idk at HQ HMS hcell2 hT
      obtain ⟨gb, hgb⟩ : ∃ gb, goneB x L[k] = gb := ⟨_, rfl⟩
      rw [hgb] at HQ hT
      clear hgb
      generalize goneL (L.take k) x = S at HO hT hlenW
      have hSl : S.length < 1000000 := by have := HLn.out; omega
      have HFk : Hid (∀ v : Value, wr.ownsRow w2.heap.size 2 1 v S.length (ints S) → ∀ w', Ch F wr w' → w'.ownsRow w2.heap.size 2 1 v S.length (ints S)) := fun v hv w' hc => hc.ownsRow hv (fun j hj hF => by
        have h1 := HFl.out j hF
        have h2 := HB.out.size
        rcases hv.2 with ⟨e, _⟩ | ⟨gg, cap, cur, e, hbg, _⟩
        · rw [e] at hj; simp [Value.ownBlock] at hj
        · rw [e] at hj; simp [Value.ownBlock] at hj; omega)
      cases gb with
      | false =>
        go_wp2_with (go_at_call 45; refine HQ.out.mono ?_; rintro e w4 ⟨rfl, V4, hF4, hT4⟩; have HF4 := Lib.hid hF4; have HT4 := Lib.hid hT4; clear hF4 hT4)
        go_roundw
        case rel =>
          refine ⟨k + 1, V4, by omega, by go_num, ?_, by rw [← HMS.out]; exact HF4, HR.out.trans HT4.out.ch (fun _ h _ => h)⟩
          rw [hT.out, if_neg (by decide), List.append_nil]
          exact HFk.out _ HO.out _ HT4.out.ch
        case measure => simp [intOf]; omega
      | true =>
        go_wp2_with (first
          | (go_at_call 45; refine HQ.out.mono ?_; rintro e w4 ⟨rfl, V4, hF4, hT4⟩; have HF4 := Lib.hid hF4; have HT4 := Lib.hid hT4; have HO4 := Lib.hid (HFk.out _ HO.out _ hT4.ch); clear hF4 hT4)
          | (at_builtin; refine wpList_append_own _ rfl _ _ 43 rfl w2.heap.size 2 i0 (.int .i64 0) 1 8 Try.underlying43 hi0 hz0 hz1 hz2 rfl (by decide) _ _ _ rfl (HO4.out.alloc _) ⟨w4.heap.size, 0, none⟩ 1 1 [.int .i64 idk] rfl rfl ?a1 ?a2 ?a3 ?a4 ?a5 ?_))
        case a1 => exact cell_one_new _ _ _
        case a2 => simp [Value.oneCell']
        case a3 => unfold maxLen; omega
        case a4 => omega
        case a5 => have := HR.out.size; have := HT4.out.ch.size; simp; omega
        intro v' w5 hown5 hgrow5 _
        have HO5 := Lib.hid hown5
        have hnew : ∀ j, u5.ownBlock = some j → w2.heap.size ≤ j := fun j hj => by
          rcases HO.out.2 with ⟨e, _⟩ | ⟨gg, cap, cur, e, hbg, _⟩
          · rw [e] at hj; simp [Value.ownBlock] at hj
          · rw [e] at hj; simp [Value.ownBlock] at hj; omega
        have cc : Ch (fun j => w2.heap.size ≤ j) w4 w5 := ((Ch.refl _ _).alloc _).grown hgrow5 (fun j hj => .inl (hnew j hj))
        have HS5 := Lib.hid (HF4.out.far cc (fun j hj hF => by have := HFl.out j hF; have := HB.out.size; omega))
        have HR5 := Lib.hid ((HR.out.trans HT4.out.ch (fun _ h _ => h)).trans cc (fun j hj hl => by omega))
        clear hown5 hgrow5 hnew cc hcell2
        go_wp2
        go_roundw
        case rel =>
          refine ⟨k + 1, V4, by omega, by go_num, ?_, by rw [← HMS.out]; exact HS5, HR5⟩
          rw [hT.out]
          simpa [ints] using HO5
        case measure => simp [intOf]; omega
    · obtain rfl : k = L.length := by omega
      have hO := HO.out
      rw [List.take_length] at hO
      have hS := HS.out
      rw [mid_all] at hS
      obtain ⟨A6, c6, hv6⟩ := row_slice hO
      subst hv6
      have HO2 := Lib.hid (IS.of_row hO)
      have HS2 := Lib.hid hS
      clear hO HO hS
      go_wp2
      go_ret
      exact ⟨A6, c6, V', rfl, HO2.out, HS2.out, ((Ch.of_below HB.out rfl).mono (fun _ h _ => h.elim)).trans HR.out (fun _ h _ => h), fun k hk => .inl hk⟩
end
end Go.Proofs.Ytiagnkmiibaacaa
