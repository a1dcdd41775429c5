/- What the calls on a table do: Quit. Conditions: the table lies in memory. -/
import Derived.Test.YtiagnkmiibaacaaAl
namespace Go.Proofs.Ytiagnkmiibaacaa
open Go.RowKit Go.Maps Go.ChangeMaps Go.WideMaps Go.Sort
theorem setCells_obj : ∀ (vs : List Value) (o : Nat) (w : World) (b : Nat) (cur : Array Value) (e : TypeId) (z : Nat × Nat), w.heap[b]? = some (.cells cur e z) →
    ∃ cur', (w.setCells b o vs).heap[b]? = some (.cells cur' e z) ∧ cur'.size = cur.size ∧ ∀ j, j < cur.size → cur'[j]? = if o ≤ j ∧ j < o + vs.length then vs[j - o]? else cur[j]? := by
  intro vs
  induction vs with
  | nil =>
    intro o w b cur e z h
    exact ⟨cur, h, rfl, fun j _ => by rw [if_neg (by simp)]⟩
  | cons v r ih =>
    intro o w b cur e z h
    obtain ⟨cur', h1, h2, h3⟩ := ih (o + 1) _ b _ e z (obj_setCell (off := o) (u := v) h)
    refine ⟨cur', h1, by rw [h2]; simp, fun j hj => ?_⟩
    rw [h3 j (by simpa using hj), List.length_cons]
    by_cases hjo : j = o
    · subst hjo
      rw [if_neg (by omega), if_pos (by omega), Nat.sub_self]
      simp [hj]
    · by_cases hc : o + 1 ≤ j ∧ j < o + 1 + r.length
      · rw [if_pos hc, if_pos (by omega), show j - o = (j - (o + 1)) + 1 by omega]
        simp
      · rw [if_neg hc, if_neg (by omega)]
        rw [Array.getElem?_setIfInBounds]
        rw [if_neg (fun e => hjo e.symm)]
theorem chN (S : Nat → Prop) (w : World) (k : Nat) : Ch S w (w.drewN k) := ⟨rfl, rfl, rfl, Nat.le_refl _, fun _ _ _ => rfl⟩
theorem setCells_ch : ∀ (vs : List Value) (o : Nat) (w : World) (b : Nat), Ch (fun j => j = b) w (w.setCells b o vs) := by
  intro vs
  induction vs with
  | nil => intro o w b; exact Ch.refl _ _
  | cons v r ih => intro o w b; exact ((Ch.refl (fun j => j = b) w).setCell (p := ⟨b, o, none⟩) (.inl rfl) v).trans (ih (o + 1) _ b) (fun _ h _ => h)
/-- who waits, without somebody -/
def without (l : List Int) (x : Int) : List Int := l.filter fun y => decide (y ≠ x)
theorem without_split {l : List Int} (hn : l.Nodup) {x : Int} (i : Nat) (hi : i < l.length) (hx : l[i] = x) : l.take i ++ l.drop (i + 1) = without l x := by
  induction l generalizing i with
  | nil => simp at hi
  | cons a r ih =>
    rw [List.nodup_cons] at hn
    cases i with
    | zero =>
      simp only [List.getElem_cons_zero] at hx
      subst hx
      simp only [List.take_zero, List.nil_append, without, List.filter_cons, List.drop_succ_cons, List.drop_zero]
      simp only [ne_eq, not_true_eq_false, decide_false, Bool.false_eq_true, ↓reduceIte]
      refine (List.filter_eq_self.2 fun y hy => ?_).symm
      simp only [decide_eq_true_eq]
      exact fun e => hn.1 (e ▸ hy)
    | succ i =>
      simp only [List.getElem_cons_succ] at hx
      have := ih hn.2 i (by simpa using hi) hx
      have hax : a ≠ x := fun e => hn.1 (by rw [e, ← hx]; exact List.getElem_mem _)
      simp only [List.take_succ_cons, List.drop_succ_cons, List.cons_append, this, without, List.filter_cons]
      simp [hax]
theorem idx_mem {l : List Int} {x : Int} (hx : x ∈ l) : ∃ i, ∃ h : i < l.length, l[i] = x ∧ Lib.idxOf l x = (i : Int) := by
  have key : ∀ (l : List Int) (k : Nat), x ∈ l → ∃ i, ∃ h : i < l.length, l[i] = x ∧ Lib.idxFrom l x k = ((k + i : Nat) : Int) := by
    intro l
    induction l with
    | nil => intro k h; cases h
    | cons a r ih =>
      intro k h
      by_cases ha : a = x
      · exact ⟨0, by simp, ha, by simp [Lib.idxFrom, ha]⟩
      · obtain ⟨i, hi, h1, h2⟩ := ih (k + 1) (by rcases List.mem_cons.1 h with h | h; exact absurd h.symm ha; exact h)
        refine ⟨i + 1, by simpa using hi, h1, ?_⟩
        simp only [Lib.idxFrom, if_neg ha, h2]
        congr 1; omega
  obtain ⟨i, hi, h1, h2⟩ := key l 0 hx
  exact ⟨i, hi, h1, by unfold Lib.idxOf; rw [h2]; simp⟩
theorem idx_out {l : List Int} {x : Int} (hx : x ∉ l) : Lib.idxOf l x = -1 := by
  have key : ∀ (l : List Int) (k : Nat), x ∉ l → Lib.idxFrom l x k = -1 := by
    intro l
    induction l with
    | nil => intro k _; rfl
    | cons a r ih =>
      intro k h
      simp only [List.mem_cons, not_or] at h
      simp only [Lib.idxFrom, if_neg (fun e : a = x => h.1 e.symm)]
      exact ih (k + 1) h.2
  exact key l 0 hx
/-- a number struck out of an owned row -/
theorem row_strike {w : World} {g cap q : Nat} {l : List Int} {i : Nat} (h : w.ownsRow 0 3 1 (.slice (some ⟨g, 0, none⟩) l.length cap) l.length (ints l)) (hi : i < l.length) :
    ((w.drewN q).setCells g 0 ((l.take i ++ l.drop (i + 1) ++ List.replicate 1 0).map (Value.int .i64))).ownsRow 0 3 1 (.slice (some ⟨g, 0, none⟩) (l.length - 1) cap) (l.length - 1) (ints (l.take i ++ l.drop (i + 1))) := by
  obtain ⟨h1, h2⟩ := h
  rcases h2 with ⟨h2, _⟩ | ⟨g', cap', cur, hv, hb, hh, hn, hc, hz, ht⟩
  · cases h2
  · cases hv
    have hlen : (l.take i ++ l.drop (i + 1)).length = l.length - 1 := by simp; omega
    obtain ⟨cur', k1, k2, k3⟩ := setCells_obj ((l.take i ++ l.drop (i + 1) ++ List.replicate 1 0).map (Value.int .i64)) 0 (w.drewN q) g cur 3 (0, 0) hh
    refine ⟨by rw [List.length_map, hlen]; omega, .inr ⟨g, cap, cur', rfl, Nat.zero_le _, k1, by omega, hc, by omega, ?_⟩⟩
    refine List.ext_getElem? fun j => ?_
    rw [List.getElem?_take]
    by_cases hj : j < (l.length - 1) * 1
    · rw [if_pos hj]
      have hj2 : j < cur.size := by omega
      have := k3 j hj2
      rw [if_pos (by simp; omega)] at this
      rw [Array.getElem?_toList, this]
      simp only [Nat.sub_zero, ints, List.getElem?_map]
      rw [List.getElem?_append_left (by rw [hlen]; omega)]
    · rw [if_neg hj]
      symm
      rw [List.getElem?_eq_none]
      simp only [ints, List.length_map, hlen]; omega
theorem delete_own {w : World} {g cap : Nat} {l : List Int} {i : Nat} (h : w.ownsRow 0 3 1 (.slice (some ⟨g, 0, none⟩) l.length cap) l.length (ints l)) (hi : i < l.length) :
    Calls Try.prog 63 #[.slice (some ⟨g, 0, none⟩) l.length cap, .int .i64 (i : Int), .int .i64 ((i : Int) + 1)] w fun e w' => e = .returned (.slice (some ⟨g, 0, none⟩) (l.length - 1) cap) ∧ Ch (fun j => j = g) w w' ∧
      w'.ownsRow 0 3 1 (.slice (some ⟨g, 0, none⟩) (l.length - 1) cap) (l.length - 1) (ints (l.take i ++ l.drop (i + 1))) := by
  have hcap : l.length ≤ cap ∧ cap ≤ maxLen := by
    rcases h.2 with ⟨h2, _⟩ | ⟨g', cap', cur, hv, _, _, h1, h2, _⟩
    · cases h2
    · cases hv; exact ⟨h1, h2⟩
  have hcells : ∀ j, j < l.length → w.cell? ⟨g, 0 + j, none⟩ = some (.int .i64 (l.getD j 0)) := fun j hj => by
    have := h.cells (g := g) rfl j (.int .i64 l[j]) (by simp [hj])
    simpa [Addr.add_mid, List.getD_eq_getElem?_getD, hj] using this
  have hfree : ∀ j, j < l.length → w.frozen? ⟨g, 0 + j, none⟩ = false := fun j hj => by
    obtain ⟨cs, h'⟩ := own_type h rfl
    exact frozen_of h'
  have := Try.slices_Delete_int_cells g 0 l.length cap i (i + 1) l w (Nat.le_refl _) hcap.1 hcap.2 (Nat.le_succ _) hi hcells hfree
  rw [show ((i + 1 : Nat) : Int) = (i : Int) + 1 by omega, show i + 1 - i = 1 by omega, List.take_length] at this
  refine this.mono ?_
  rintro e w' ⟨rfl, q, rfl⟩
  exact ⟨rfl, (chN _ w q).trans (setCells_ch _ _ _ _) (fun _ h _ => h), row_strike h hi⟩
section
variable {F : Nat → Prop} {p m : Nat} {last : Int} {L : List FT} {N : Nat} {K : KM} {V : Int → Value} {w w' : World} {n : Int}
def dropW (x : Int) (t : FT) : FT := ⟨t.f, t.en, without t.who x⟩
theorem quit_no (h : FS F p m last L N K V w) (hw : (Lit.int .i64 n).wf = true) (hf : find L n = none) (x : Int) : Calls Try.prog 45 #[.pointer (some ⟨p, 0, none⟩), .int .i64 n, .int .i64 x] w fun e w' => e = .returned (.bool false) ∧ w = w' := by
  have hl := h.look hw
  have hc := h.c1
  rw [h.no n (find_none hf)] at hl
  simp only [pv, Option.isSome_none] at hl
  clear h hf
  go_enter Try.func45, Try.ntmps45
  go_wp2
  go_ret
  exact ⟨rfl, rfl⟩
set_option maxRecDepth 100000 in
set_option maxHeartbeats 1000000 in
theorem quit_out (h : FS F p m last L N K V w) (hw : (Lit.int .i64 n).wf = true) {t : FT} (hf : find L n = some t) (ht : t.who.length < 1000000) (x : Int) (hx : x ∉ t.who) : Calls Try.prog 45 #[.pointer (some ⟨p, 0, none⟩), .int .i64 n, .int .i64 x] w fun e w' => e = .returned (.bool false) ∧ w = w' := by
  have hl := h.look hw
  have hc := h.c1
  obtain ⟨b, hk, hi, hF, hV⟩ := h.at_ hf
  rw [hk] at hl
  simp only [pv, Option.isSome_some] at hl
  have hown := hi.own
  have c15 := cell_of (off := 15) (v := V n) hi.blk rfl
  obtain ⟨A, c, hv⟩ := row_slice hown
  rw [hv] at hown c15
  have HI := Lib.hid (IS.of_row hown)
  have hx' := idx_out hx
  clear h hf hi hF hV hk hv hown hx
  go_enter Try.func45, Try.ntmps45
  go_wp2_with (go_at_call 60; refine (index_any HI.out ht x).mono ?_; rw [hx']; rintro e w' ⟨rfl, rfl⟩)
  go_ret
  exact ⟨rfl, rfl⟩
set_option maxRecDepth 100000 in
set_option maxHeartbeats 1000000 in
theorem quit_yes (h : FS F p m last L N K V w) (hw : (Lit.int .i64 n).wf = true) {t : FT} (hf : find L n = some t) (ht : t.who.length < 1000000) (hnd : t.who.Nodup) (x : Int) (hx : x ∈ t.who) :
    Calls Try.prog 45 #[.pointer (some ⟨p, 0, none⟩), .int .i64 n, .int .i64 x] w fun e w' => e = .returned (.bool (decide ((without t.who x) = []))) ∧ ∃ V', FS F p m last (upd L n (dropW x)) N K V' w' ∧ Tn F F w w' := by
  have hl := h.look hw
  have hc := h.c1
  obtain ⟨b, hk, hi, hF, hV⟩ := h.at_ hf
  have HH := Lib.hid h
  have HK := Lib.hid hk
  have HF := Lib.hid hf
  rw [hk] at hl
  simp only [pv, Option.isSome_some] at hl
  have hown := hi.own
  have HB := Lib.hid hi.blk
  have c15 := cell_of (off := 15) (v := V n) hi.blk rfl
  obtain ⟨i, hil, hix, hidx⟩ := idx_mem hx
  obtain ⟨g, cap, hA, _, hglt⟩ := hown.form (by omega)
  have HVn := Lib.hid hA
  rw [hA] at hown c15
  have HI := Lib.hid (IS.of_row hown)
  have HO := Lib.hid hown
  have HT := Lib.hid ht
  have HW := Lib.hid (without_split hnd i hil hix)
  have HIL := Lib.hid hil
  have HNE : Hid (g ≠ b) := fun e => by
    obtain ⟨cs, h'⟩ := own_type hown rfl
    rw [e, HB.out] at h'; cases h'
  have hi1 : (i : Int) < 1000000 := by omega
  have hi0 : (0 : Int) ≤ (i : Int) := by omega
  have hdel := delete_own HO.out hil
  obtain ⟨ii, hii⟩ : ∃ z : Int, (i : Int) = z := ⟨_, rfl⟩
  rw [hii] at hi1 hi0 hidx hdel
  have HD := Lib.hid hdel
  clear hii hdel
  have hwl : (without t.who x).length = t.who.length - 1 := by
    rw [← HW.out]; simp; omega
  have HWL := Lib.hid hwl
  clear h hf hi hF hV hk hA hown hnd hx hil hix hwl
  go_enter Try.func45, Try.ntmps45
  go_wp2_with (first
    | (go_at_call 60; refine (index_any HI.out HT.out x).mono ?_; rw [hidx]; rintro e w' ⟨rfl, rfl⟩)
    | (go_at_call 63; refine (HD.out).mono ?_; rintro e w1 ⟨rfl, hc1, ho1⟩; have hb1 := hc1.obj HB.out (fun e => HNE.out e.symm); have z15 := cell_of (off := 15) (v := V n) hb1 rfl; have f15 := frozen_of (off := 15) hb1; have HB1 := Lib.hid hb1; have HC1 := Lib.hid hc1; have HO1 := Lib.hid ho1; clear hb1 hc1 ho1))
  go_ret
  have hbv : ∀ k, (Value.slice (some ⟨g, 0, none⟩) (t.who.length - 1) cap).ownBlock = some k → ¬ (k = b) := fun k hk e => by
    have e1 : g = k := by simpa [Value.ownBlock] using hk
    exact HNE.out (e1.trans e)
  have hc : Ch (fun j => j = b ∨ (V n).ownBlock = some j ∨ w.heap.size ≤ j) w (w1.setCell ⟨b, 15, none⟩ (.slice (some ⟨g, 0, none⟩) (t.who.length - 1) cap)) :=
    (HC1.out.mono (T := fun j => j = b ∨ (V n).ownBlock = some j ∨ w.heap.size ≤ j) (fun k hk _ => .inr (.inl (by rw [HVn.out, hk]; rfl)))).setCell (p := ⟨b, 15, none⟩) (.inl (.inl rfl)) _
  have hit : IT (w1.setCell ⟨b, 15, none⟩ (.slice (some ⟨g, 0, none⟩) (t.who.length - 1) cap)) (dropW x t) b (.slice (some ⟨g, 0, none⟩) (t.who.length - 1) cap) := by
    refine ⟨obj_setCell HB1.out, ?_⟩
    have := ((Ch.refl (fun j => j = b) w1).setCell (p := ⟨b, 15, none⟩) (.inl rfl) (.slice (some ⟨g, 0, none⟩) (t.who.length - 1) cap)).ownsRow HO1.out hbv
    rw [HW.out] at this
    show World.ownsRow _ 0 3 1 _ (without t.who x).length _
    rw [HWL.out]
    exact this
  obtain ⟨r1, r2⟩ := HH.out.turn (g := dropW x) HF.out HK.out (fun _ => rfl) hc (fun _ h => h) hit (fun k hk => .inl (by rw [HVn.out]; exact hk))
  have HFe : ∀ k, (F k ∨ (Value.slice (some ⟨g, 0, none⟩) (t.who.length - 1) cap).ownBlock = some k) ↔ F k := fun k => by
    refine ⟨fun h => h.elim id fun h => ?_, .inl⟩
    obtain ⟨b', _, _, _, hV'⟩ := HH.out.at_ HF.out
    exact hV' k (by rw [HVn.out]; exact h)
  have HFf : (fun k => F k ∨ (Value.slice (some ⟨g, 0, none⟩) (t.who.length - 1) cap).ownBlock = some k) = F := funext fun k => propext (HFe k)
  rw [HFf] at r1 r2
  refine ⟨?_, _, r1, r2⟩
  have : ((((t.who.length - 1 : Nat) : Int) == 0) : Bool) = decide (without t.who x = []) := by
    rw [Bool.eq_iff_iff, beq_iff_eq, decide_eq_true_iff, ← List.length_eq_zero_iff, HWL.out]
    omega
  rw [← this]
  rfl
end
end Go.Proofs.Ytiagnkmiibaacaa
