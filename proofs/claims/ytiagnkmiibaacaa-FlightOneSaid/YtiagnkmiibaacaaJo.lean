/- What the calls on a table do: Join, Who. Conditions: the table lies in memory. -/
import Derived.Test.YtiagnkmiibaacaaNu
import Derived.Maps.AppendAt
import Derived.OwnWalk
namespace Go.Proofs.Ytiagnkmiibaacaa
open Go.RowKit Go.Maps Go.ChangeMaps Go.WideMaps Go.Sort
theorem info3 : (Try.prog.info? 3).map (fun i => (i.zero, i.size, i.bytes)) = some (some (.int .i64 0), 1, 8) := by kernel_rfl
theorem info2 : (Try.prog.info? 2).map (fun i => (i.zero, i.size, i.bytes)) = some (some (.int .i64 0), 1, 8) := by kernel_rfl
section
variable {F : Nat → Prop} {p m : Nat} {last : Int} {L : List FT} {N : Nat} {K : KM} {V : Int → Value} {w w' : World} {n : Int}
theorem IS.cells {A : Option Addr} {l : List Int} (h : IS w A l) (h0 : 0 < l.length) : ∃ g o, A = some ⟨g, o, none⟩ ∧ g < w.heap.size ∧ ∀ j, j < l.length → w.cell? ⟨g, o + j, none⟩ = some (.int .i64 (l.getD j 0)) := by
  obtain ⟨g, o, rfl, hg, _⟩ := h 0 h0
  refine ⟨g, o, rfl, hg, fun j hj => ?_⟩
  obtain ⟨g', o', e, _, hc⟩ := h j hj
  cases e
  rw [hc]; simp [List.getD_eq_getElem?_getD, hj]
theorem contains_any {A : Option Addr} {l : List Int} {c : Nat} (h : IS w A l) (hl : l.length < 1000000) (x : Int) : Calls Try.prog 41 #[.slice A l.length c, .int .i64 x] w fun e w' => e = .returned (.bool (l.contains x)) ∧ w = w' := by
  rcases Nat.eq_zero_or_pos l.length with h0 | h0
  · have e : l = [] := List.eq_nil_of_length_eq_zero h0
    subst e
    exact (Try.slices_Contains_int_empty A c x w).mono fun e w' ⟨he, hw⟩ => ⟨he, hw.symm⟩
  · obtain ⟨g, o, rfl, _, hc⟩ := h.cells h0
    refine (Try.slices_Contains_int g o l.length c l x w (Nat.le_refl _) (by omega) hc).mono fun e w' ⟨he, hw⟩ => ⟨?_, hw.symm⟩
    rw [he, List.take_length]
theorem index_any {A : Option Addr} {l : List Int} {c : Nat} (h : IS w A l) (hl : l.length < 1000000) (x : Int) : Calls Try.prog 60 #[.slice A l.length c, .int .i64 x] w fun e w' => e = .returned (.int .i64 (Lib.idxOf l x)) ∧ w = w' := by
  rcases Nat.eq_zero_or_pos l.length with h0 | h0
  · have e : l = [] := List.eq_nil_of_length_eq_zero h0
    subst e
    exact (Try.slices_Index_int_empty A c x w).mono fun e w' ⟨he, hw⟩ => ⟨he, hw.symm⟩
  · obtain ⟨g, o, rfl, _, hc⟩ := h.cells h0
    refine (Try.slices_Index_int g o l.length c l x w (Nat.le_refl _) (by omega) hc).mono fun e w' ⟨he, hw⟩ => ⟨?_, hw.symm⟩
    rw [he, List.take_length]
theorem obj_grown {b : Nat} {o : Obj} {row : Option Nat} (h : w.heap[b]? = some o) (hg : w.grownBy w' row) (hne : some b ≠ row) : w'.heap[b]? = some o := by
  rw [hg.block b (lt_of_obj h) hne]; exact h
def addW (x : Int) (t : FT) : FT := ⟨t.f, t.en, t.who ++ [x]⟩
def joinE (o : Option FT) (x : Int) : Int :=
  match o with
  | none => 6
  | some t => if t.who.contains x then 7 else 0
theorem cell_one_new (w : World) (x : Int) (ty : TypeId) : ∀ j u, ([.int .i64 x] : List Value)[j]? = some u → (w.alloc (.cells #[.int .i64 x] ty)).cell? ((⟨w.heap.size, 0, none⟩ : Addr).add j) = some u := by
  intro j u hj
  match j, hj with
  | 0, hj => cases hj; exact cell_of (obj_new w _) rfl
theorem join_no (h : FS F p m last L N K V w) (hw : (Lit.int .i64 n).wf = true) (hf : find L n = none) (x : Int) : Calls Try.prog 12 #[.pointer (some ⟨p, 0, none⟩), .int .i64 n, .int .i64 x] w fun e w' => e = .returned (.int .i64 6) ∧ w = w' := by
  have hl := h.look hw
  have hc := h.c1
  rw [h.no n (find_none hf)] at hl
  simp only [pv, Option.isSome_none] at hl
  clear h hf
  go_enter Try.func12, Try.ntmps12
  go_wp2
  go_ret
  exact ⟨rfl, rfl⟩
set_option maxHeartbeats 1000000 in
theorem join_twice (h : FS F p m last L N K V w) (hw : (Lit.int .i64 n).wf = true) {t : FT} (hf : find L n = some t) (ht : t.who.length < 1000000) (x : Int) (hx : t.who.contains x = true) : Calls Try.prog 12 #[.pointer (some ⟨p, 0, none⟩), .int .i64 n, .int .i64 x] w fun e w' => e = .returned (.int .i64 7) ∧ w = w' := by
  have hl := h.look hw
  have hc := h.c1
  obtain ⟨b, hk, hi, hF, hV⟩ := h.at_ hf
  rw [hk] at hl
  simp only [pv, Option.isSome_some] at hl
  have hown := hi.own
  have c15 := cell_of (off := 15) (v := V n) hi.blk rfl
  obtain ⟨A, c, hv⟩ := row_slice hown
  rw [hv] at hown c15
  have HI := Lib.hid (IS.of_row hown)
  clear h hf hi hF hV hk hv hown
  go_enter Try.func12, Try.ntmps12
  go_wp2_with (go_at_call 41; refine (contains_any HI.out ht x).mono ?_; rw [hx]; rintro e w' ⟨rfl, rfl⟩)
  go_ret
  exact ⟨rfl, rfl⟩
set_option maxHeartbeats 1000000 in
theorem join_yes (h : FS F p m last L N K V w) (hw : (Lit.int .i64 n).wf = true) {t : FT} (hf : find L n = some t) (ht : t.who.length < 1000000) (x : Int) (hx : t.who.contains x = false) :
    Calls Try.prog 12 #[.pointer (some ⟨p, 0, none⟩), .int .i64 n, .int .i64 x] w fun e w' => e = .returned (.int .i64 0) ∧ ∃ F' V', FS F' p m last (upd L n (addW x)) N K V' w' ∧ Tn F F' w w' := by
  have hl := h.look hw
  have hc := h.c1
  obtain ⟨b, hk, hi, hF, hV⟩ := h.at_ hf
  have HH := Lib.hid h
  have HK := Lib.hid hk
  have HF := Lib.hid hf
  rw [hk] at hl
  simp only [pv, Option.isSome_some] at hl
  have hown := hi.own
  have HB := Lib.hid hi.blk
  have c15 := cell_of (off := 15) (v := V n) hi.blk rfl
  obtain ⟨v, hv⟩ : ∃ v, V n = v := ⟨_, rfl⟩
  have HVn := Lib.hid hv
  rw [hv] at hown c15
  obtain ⟨A, c, hA⟩ := row_slice hown
  subst hA
  have HI := Lib.hid (IS.of_row hown)
  have HO := Lib.hid hown
  have HT := Lib.hid ht
  have d15 : ∀ o, (w.alloc o).cell? ⟨b, 15, none⟩ = some (.slice A t.who.length c) := fun o => by
    have := cell_of (off := 15) (v := V n) (obj_alloc (o' := o) HB.out) rfl
    rw [hv] at this; exact this
  obtain ⟨i0, hi0, hz0, hz1, hz2⟩ := info_parts info3
  clear h hf hi hF hV hk hv hown
  go_enter Try.func12, Try.ntmps12
  go_wp2_with (first
    | (go_at_call 41; refine (contains_any HI.out HT.out x).mono ?_; rw [hx]; rintro e w' ⟨rfl, rfl⟩)
    | (at_builtin; refine wpList_append_own_at _ rfl _ _ 22 rfl 0 3 i0 (.int .i64 0) 1 8 Try.underlying22 hi0 hz0 hz1 hz2 rfl (by decide) _ _ _ rfl (HO.out.alloc _) ⟨w.heap.size, 0, none⟩ 1 1 [.int .i64 x] rfl rfl ?a1 ?a2 ?a3 ?a4 (Nat.zero_le _) ?_))
  case a1 => exact cell_one_new _ _ _
  case a2 => simp [Value.oneCell']
  case a3 => unfold maxLen; have := HT.out; omega
  case a4 => have := HT.out; omega
  intro v' w1 hown1 hgrow1 _ hat
  obtain ⟨A1, c1, hv1⟩ := row_slice hown1
  subst hv1
  have hne : some b ≠ (Value.slice A t.who.length c).ownBlock := fun e => by
    obtain ⟨cs, h'⟩ := own_type HO.out e.symm
    rw [HB.out] at h'; cases h'
  have hb1 := obj_grown (obj_alloc (o' := .cells #[.int .i64 x] 3) HB.out) hgrow1 hne
  have z15 := cell_of (off := 15) (v := V n) hb1 rfl
  have f15 := frozen_of (off := 15) hb1
  have HB1 := Lib.hid hb1
  have HN1 := Lib.hid hown1
  have HG1 := Lib.hid hgrow1
  have HA1 := Lib.hid hat
  clear hb1 hown1 hgrow1 hat d15 c15 hl hc hne hi0 hz0 hz1 hz2
  go_wp2
  go_ret
  have hbv : ∀ k, (Value.slice A1 (t.who.length + 1) c1).ownBlock = some k → ¬ (k = b) := fun k hk e => by
    obtain ⟨cs, h'⟩ := own_type HN1.out hk
    rw [e, HB1.out] at h'; cases h'
  have hc : Ch (fun j => j = b ∨ (V n).ownBlock = some j ∨ w.heap.size ≤ j) w (w1.setCell ⟨b, 15, none⟩ (.slice A1 (t.who.length + 1) c1)) :=
    ((((Ch.refl (fun j => j = b ∨ (V n).ownBlock = some j ∨ w.heap.size ≤ j) w).alloc (.cells #[.int .i64 x] 3)).grown HG1.out (fun k hk => .inl (.inr (.inl (by rw [HVn.out]; exact hk)))))).setCell (p := ⟨b, 15, none⟩) (.inl (.inl rfl)) (.slice A1 (t.who.length + 1) c1)
  have hit : IT (w1.setCell ⟨b, 15, none⟩ (.slice A1 (t.who.length + 1) c1)) (addW x t) b (.slice A1 (t.who.length + 1) c1) := by
    refine ⟨obj_setCell HB1.out, ?_⟩
    have := ((Ch.refl (fun j => j = b) w1).setCell (p := ⟨b, 15, none⟩) (.inl rfl) (.slice A1 (t.who.length + 1) c1)).ownsRow HN1.out hbv
    simpa [addW, ints] using this
  obtain ⟨r1, r2⟩ := HH.out.turn (g := addW x) HF.out HK.out (fun _ => rfl) hc (fun _ h => h) hit (fun k hk => by
    rcases HA1.out with e | e
    · exact .inl (by rw [HVn.out, ← e]; exact hk)
    · rw [e] at hk; injection hk with hk; exact .inr (by rw [← hk]; simp))
  exact ⟨rfl, _, _, r1, r2⟩
end
end Go.Proofs.Ytiagnkmiibaacaa
