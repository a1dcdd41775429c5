/- What the calls on a table do: Start of a flight that may be. Conditions: the table lies in memory. -/
import Derived.Test.YtiagnkmiibaacaaC2
import Derived.StillTailTactics
import Derived.RegionTactic
import Derived.ChangeAlike
namespace Go.Proofs.Ytiagnkmiibaacaa
open Go.RowKit Go.Maps Go.ChangeMaps Go.WideMaps
/-- the flight that is started -/
def begun (f : Fl) (n : Int) : FT := ⟨{ f with id := n, at_ := f.fr }, f.upto, []⟩
theorem rel_new {D : DataW Unit} {K : KM} (r : Rel D K) (hD : Maps.IsMap D) (n : Int) (b : Nat) : Rel (D.put (ik n) (.lit (.int .i64 b))) (fun k => if k = n then some b else K k) := rel_put r hD n b
section
variable {F : Nat → Prop} {p m : Nat} {last : Int} {L : List FT} {N : Nat} {K : KM} {V : Int → Value} {w : World} {n : Int}
/-- the worlds ahead of the table's turn -/
theorem start_facts {f : Fl} (hs : startB f = true) : f.id = 0 ∧ f.at_ = 0 ∧ f.heard = false ∧ 0 ≤ f.entry ∧ (f.entry = 0 ∨ tagB f.mt f.mw = false) ∧ rightB f.fr f.upto = true ∧ f.fr ≠ f.upto := by
  unfold startB at hs
  simp only [Bool.not_eq_eq_eq_not, Bool.not_true, Bool.or_eq_false_iff, bne_eq_false_iff_eq, decide_eq_false_iff_not, Bool.and_eq_false_iff, beq_eq_false_iff_ne] at hs
  obtain ⟨h1, h2, h3, h4, h5, h6, h7⟩ := hs
  exact ⟨h1, h2, h3, by omega, h5, by simpa using h6, h7⟩
set_option maxRecDepth 100000 in
set_option maxHeartbeats 2000000 in
theorem start_ok (h : FS F p m last L N K V w) (f : Fl) (hs : startB f = true) (hl : last < 1000000) (hN : N < 1000000) :
    Calls Try.prog 11 #[.pointer (some ⟨p, 0, none⟩), .agg (cF f)] w fun e w' => e = .returned (.tuple #[.int .i64 (last + 1), .int .i64 0]) ∧ ∃ F' K' V', FS F' p m (last + 1) (L ++ [begun f (last + 1)]) (N + 1) K' V' w' ∧ Tn F F' w w' := by
  have tg := tag_eq f.mt f.mw
  have b1 := (Below.refl w.heap.size w).alloc (Nat.le_refl _) (.cells (cF f) 30)
  have HB := Lib.hid (b1.alloc b1.size (.cells #[.int .i64 f.fr, .int .i64 f.upto] 24))
  have hy := obj_alloc (obj_new w (.cells (cF f) 30)) (o' := .cells #[.int .i64 f.fr, .int .i64 f.upto] 24)
  have hz := obj_new (w.alloc (.cells (cF f) 30)) (.cells #[.int .i64 f.fr, .int .i64 f.upto] 24)
  rw [show (w.alloc (.cells (cF f) 30)).heap.size = w.heap.size + 1 by simp] at hz
  have HZ := Lib.hid hz
  have HY := Lib.hid hy
  have HL : Hid (last < 1000000 ∧ 0 ≤ last) := ⟨hl, h.l0⟩
  have H0 := Lib.hid h
  clear b1 hz hy h hl
  have hs' := start_facts hs
  clear hs
  obtain ⟨id, obj, fr, upto, mt, mw, nt, nw, entry, said, moment, gen, at_, heard⟩ := f
  simp only at hs' tg HZ HY
  obtain ⟨rfl, rfl, rfl, h4, h5, h6, h7⟩ := hs'
  have h41 : decide (entry < 0) = false := decide_eq_false (by omega)
  have h71 : (fr == upto) = false := by simpa using h7
  have H7 := Lib.hid h7
  have H6 := Lib.hid h6
  clear h7 h4
  go_enter Try.func11, Try.ntmps11
  go_upto_region 2 with fail
  go_cut [50] (fun v wc => v = .bool false ∧ Hid (Below w.heap.size w wc ∧ wc.heap[w.heap.size]? = some (.cells (cF ⟨0, obj, fr, upto, mt, mw, nt, nw, entry, said, moment, gen, 0, false⟩) 30 (0, 0)) ∧ wc.heap[w.heap.size + 1]? = some (.cells #[.int .i64 fr, .int .i64 upto] 24 (0, 0))))
  case first =>
    cases h51 : (entry != 0) with
    | true =>
      have h52 : tagB mt mw = false := by
        rcases h5 with h5 | h5
        · simp [h5] at h51
        · exact h5
      clear h5
      go_wp2_with (go_at_call 40; refine (right_any _ _ _).mono ?_; rw [H6.out]; rintro e w' ⟨rfl, hb⟩; have hz := blk_below HZ.out hb; have z0 := cell_of (off := 0) (v := .int .i64 fr) hz rfl; have z1 := cell_of (off := 1) (v := .int .i64 upto) hz rfl)
      go_meet
      case rel => exact ⟨rfl, HB.out.trans (hb.mono HB.out.size), blk_below HY.out hb, hz⟩
    | false =>
      clear h5
      go_wp2_with (go_at_call 40; refine (right_any _ _ _).mono ?_; rw [H6.out]; rintro e w' ⟨rfl, hb⟩; have hz := blk_below HZ.out hb; have z0 := cell_of (off := 0) (v := .int .i64 fr) hz rfl; have z1 := cell_of (off := 1) (v := .int .i64 upto) hz rfl)
      go_meet
      case rel => exact ⟨rfl, HB.out.trans (hb.mono HB.out.size), blk_below HY.out hb, hz⟩
  case rest =>
    obtain ⟨rfl, HC⟩ := hcut
    clear tg h5 h41 h71 HB HZ HY H6
    have HG : Hid (p < w.heap.size) := H0.out.lt _ H0.out.fp
    have HT := Lib.hid (H0.out.far (Ch.of_below HC.out.1 rfl) (fun _ hk => hk.elim))
    obtain ⟨g, Hg⟩ : ∃ g, Hid (w.heap.size = g) := ⟨_, rfl⟩
    rw [Hg.out] at HC HG ⊢
    have c0 := HT.out.c0
    have f0 := frozen_of (off := 0) HT.out.obj
    have hl1 : last < 1000000 := HL.out.1
    have hl2 : 0 ≤ last := HL.out.2
    go_upto_region 5 with fail
    have hpg : g ≠ p := by have := HG.out; omega
    have hpg1 : g + 1 ≠ p := by have := HG.out; omega
    have HW4 : Hid (Ch (fun j => j = p) wc (wc.setCell ⟨p, 0, none⟩ (.int .i64 (last + 1))) ∧ (wc.setCell ⟨p, 0, none⟩ (.int .i64 (last + 1))).heap[p]? = some (.cells #[.int .i64 (last + 1), .map (some m)] 87 (0, 0)) ∧
        (wc.setCell ⟨p, 0, none⟩ (.int .i64 (last + 1))).heap[g]? = some (.cells (cF ⟨0, obj, fr, upto, mt, mw, nt, nw, entry, said, moment, gen, 0, false⟩) 30 (0, 0)) ∧ (wc.setCell ⟨p, 0, none⟩ (.int .i64 (last + 1))).heap[g + 1]? = some (.cells #[.int .i64 fr, .int .i64 upto] 24 (0, 0))) :=
      ⟨(Ch.refl (fun j => j = p) wc).setCell (p := ⟨p, 0, none⟩) (.inl rfl) _, obj_setCell HT.out.obj, obj_setCell_other HC.out.2.1 hpg, obj_setCell_other HC.out.2.2 hpg1⟩
    clear c0 f0
    generalize (wc.setCell ⟨p, 0, none⟩ (.int .i64 (last + 1))) = w4 at HW4 ⊢
    have c0 := cell_of (off := 0) (v := .int .i64 (last + 1)) HW4.out.2.1 rfl
    have s0 := cell_of (off := 0) (v := .int .i64 fr) HW4.out.2.2.2 rfl
    have g0 := cell_of (off := 0) (v := .int .i64 0) HW4.out.2.2.1 rfl
    have g12 := cell_of (off := 12) (v := .int .i64 0) HW4.out.2.2.1 rfl
    have fz := fun o => frozen_of (off := o) HW4.out.2.2.1
    go_region
    clear c0 s0 g0 g12 fz
    have HW5 : Hid (Ch (fun j => j = p ∨ g ≤ j) wc ((w4.setCell ⟨g, 0, none⟩ (.int .i64 (last + 1))).setCell ⟨g, 12, none⟩ (.int .i64 fr)).drew ∧ ((w4.setCell ⟨g, 0, none⟩ (.int .i64 (last + 1))).setCell ⟨g, 12, none⟩ (.int .i64 fr)).drew.heap[p]? = some (.cells #[.int .i64 (last + 1), .map (some m)] 87 (0, 0)) ∧
        ((w4.setCell ⟨g, 0, none⟩ (.int .i64 (last + 1))).setCell ⟨g, 12, none⟩ (.int .i64 fr)).drew.heap[g]? = some (.cells (cF ⟨last + 1, obj, fr, upto, mt, mw, nt, nw, entry, said, moment, gen, fr, false⟩) 30 (0, 0)) ∧ ((w4.setCell ⟨g, 0, none⟩ (.int .i64 (last + 1))).setCell ⟨g, 12, none⟩ (.int .i64 fr)).drew.heap[g + 1]? = some (.cells #[.int .i64 fr, .int .i64 upto] 24 (0, 0))) := by
      have o1 := obj_setCell (off := 0) (u := .int .i64 (last + 1)) HW4.out.2.2.1
      have o2 := obj_setCell (off := 12) (u := .int .i64 fr) o1
      have q1 := obj_setCell_other (p := ⟨g, 0, none⟩) (u := .int .i64 (last + 1)) HW4.out.2.1 (fun e => hpg e.symm)
      have q2 := obj_setCell_other (p := ⟨g, 12, none⟩) (u := .int .i64 fr) q1 (fun e => hpg e.symm)
      have r1 := obj_setCell_other (p := ⟨g, 0, none⟩) (u := .int .i64 (last + 1)) HW4.out.2.2.2 (by show g + 1 ≠ g; omega)
      have r2 := obj_setCell_other (p := ⟨g, 12, none⟩) (u := .int .i64 fr) r1 (by show g + 1 ≠ g; omega)
      exact ⟨((((HW4.out.1.mono (T := fun j => j = p ∨ g ≤ j) (fun b h _ => .inl h)).setCell (p := ⟨g, 0, none⟩) (.inl (.inr (Nat.le_refl _))) _).setCell (p := ⟨g, 12, none⟩) (.inl (.inr (Nat.le_refl _))) _).drew), q2, o2, r2⟩
    clear HW4
    go_upto_region 6 with fail
    generalize ((w4.setCell ⟨g, 0, none⟩ (.int .i64 (last + 1))).setCell ⟨g, 12, none⟩ (.int .i64 fr)).drew = w5 at HW5 ⊢
    have hm5 : ∃ D, w5.ownsMap Try.prog 2 Rk m N D ∧ Rel D K := by
      obtain ⟨D, hm, hr⟩ := HT.out.map
      refine ⟨D, HW5.out.1.ownsMap hm (fun e => ?_), hr⟩
      rcases e with e | e
      · exact HT.out.pne e.symm
      · have := H0.out.lt _ H0.out.fm
        have := Hg.out
        omega
    obtain ⟨D, hm, hr⟩ := hm5
    have HR := Lib.hid hr
    have HM := Lib.hid hm
    clear hr hm
    have c1 := cell_of (off := 1) (v := .map (some m)) HW5.out.2.1 rfl
    have s1 := cell_of (off := 1) (v := .int .i64 upto) HW5.out.2.2.2 rfl
    have hb := HW5.out.2.2.1
    have d0 := cell_of (off := 0) (v := .int .i64 (last + 1)) hb rfl
    have d1 := cell_of (off := 1) (v := .string obj) hb rfl
    have d2 := cell_of (off := 2) (v := .int .i64 fr) hb rfl
    have d3 := cell_of (off := 3) (v := .int .i64 upto) hb rfl
    have d4 := cell_of (off := 4) (v := .string mt) hb rfl
    have d5 := cell_of (off := 5) (v := .bool mw) hb rfl
    have d6 := cell_of (off := 6) (v := .string nt) hb rfl
    have d7 := cell_of (off := 7) (v := .bool nw) hb rfl
    have d8 := cell_of (off := 8) (v := .int .i64 entry) hb rfl
    have d9 := cell_of (off := 9) (v := .int .i64 said) hb rfl
    have d10 := cell_of (off := 10) (v := .int .i64 moment) hb rfl
    have d11 := cell_of (off := 11) (v := .int .i64 gen) hb rfl
    have d12 := cell_of (off := 12) (v := .int .i64 fr) hb rfl
    have d13 := cell_of (off := 13) (v := .bool false) hb rfl
    clear hb
    have HM6 : Hid (((w5.alloc (.cells (cT ⟨last + 1, obj, fr, upto, mt, mw, nt, nw, entry, said, moment, gen, fr, false⟩ upto (.slice none 0 0)) 91)).drew).ownsMap Try.prog 2 Rk m N D) := (HM.out.alloc _).drew
    have hwf : (Lit.int .i64 (last + 1)).wf = true := by simp [Lit.wf, IntKind.min, IntKind.max]; simp [IntKind.signed, IntKind.bits]; omega
    obtain ⟨w7, hrun, hown, hturn⟩ := HM6.out.store law2 Try.underlying85 (key := .int .i64 (last + 1)) (val := .pointer (some ⟨w5.heap.size, 0, none⟩)) (by unfold maxLen; omega) (keyOf_int_mk Try.underlying2 hwf) (Rk_some w5.heap.size)
    have HO7 := Lib.hid hown
    have HT7 := Lib.hid hturn
    clear hown hturn hwf
    have e0 : ∀ o, (w5.alloc o).cell? ⟨g, 0, none⟩ = some (.int .i64 (last + 1)) := fun o => cell_of (obj_alloc HW5.out.2.2.1) rfl
    have e1 : ∀ o, (w5.alloc o).cell? ⟨p, 1, none⟩ = some (.map (some m)) := fun o => cell_of (obj_alloc HW5.out.2.1) rfl
    go_region
    have hgm : g ≠ m := by have := H0.out.lt _ H0.out.fm; have := Hg.out; omega
    have hbm : w5.heap.size ≠ m := by have := H0.out.lt _ H0.out.fm; have := HW5.out.1.size; have := HC.out.1.size; omega
    have hg7 := obj_turned (b := g) (show (w5.alloc (.cells (cT ⟨last + 1, obj, fr, upto, mt, mw, nt, nw, entry, said, moment, gen, fr, false⟩ upto (.slice none 0 0)) 91)).drew.heap[g]? = _ from obj_alloc HW5.out.2.2.1) HT7.out hgm
    have hp7 := obj_turned (b := p) (show (w5.alloc (.cells (cT ⟨last + 1, obj, fr, upto, mt, mw, nt, nw, entry, said, moment, gen, fr, false⟩ upto (.slice none 0 0)) 91)).drew.heap[p]? = _ from obj_alloc HW5.out.2.1) HT7.out H0.out.pne
    have hb7 := obj_turned (b := w5.heap.size) (show (w5.alloc (.cells (cT ⟨last + 1, obj, fr, upto, mt, mw, nt, nw, entry, said, moment, gen, fr, false⟩ upto (.slice none 0 0)) 91)).drew.heap[w5.heap.size]? = _ from obj_new w5 _) HT7.out hbm
    have hc7 : Ch (fun j => j = p ∨ j = m ∨ w.heap.size ≤ j) w w7 := by
      have q1 := (((Ch.of_below HC.out.1 Hg.out.symm).mono (T := fun j => j = p ∨ j = m ∨ w.heap.size ≤ j) (fun _ h _ => h.elim)).trans HW5.out.1 (fun b hb hl => by rcases hb with hb | hb; exact .inl hb; exact .inr (.inr (by have := Hg.out; omega)))).alloc (.cells (cT ⟨last + 1, obj, fr, upto, mt, mw, nt, nw, entry, said, moment, gen, fr, false⟩ upto (.slice none 0 0)) 91)
      exact (q1.drew).turned HT7.out (.inl (.inr (.inl rfl)))
    have hfin := H0.out.add (t := begun ⟨0, obj, fr, upto, mt, mw, nt, nw, entry, said, moment, gen, 0, false⟩ (last + 1)) (b := w5.heap.size) rfl hc7 (fun _ h => h) hp7 ⟨_, HO7.out, rel_new HR.out HM.out.isMap _ _⟩ ⟨hb7, ⟨by simp [begun], .inl ⟨rfl, rfl⟩⟩⟩ (by have := HW5.out.1.size; have := HC.out.1.size; omega)
    have z0 := cell_of (off := 0) (v := .int .i64 (last + 1)) hg7 rfl
    have HF := Lib.hid hfin
    clear c1 s1 d0 d1 d2 d3 d4 d5 d6 d7 d8 d9 d10 d11 d12 d13 e0 e1 hrun hg7 hp7 hb7 hc7 hfin hgm hbm
    go_wp2
    go_ret2
    exact ⟨rfl, _, _, _, HF.out⟩
end
end Go.Proofs.Ytiagnkmiibaacaa
