/- What the calls on a table do: End, Of. Conditions: the table lies in memory. -/
import Derived.Test.YtiagnkmiibaacaaJo
namespace Go.Proofs.Ytiagnkmiibaacaa
open Go.RowKit Go.Maps Go.ChangeMaps Go.WideMaps Go.Sort
theorem rel_del {D : DataW Unit} {K : KM} (r : Rel D K) (n : Int) : Rel (D.del (ik n)) (fun k => if k = n then none else K k) := by
  refine ⟨fun k => ?_, fun k => ?_⟩
  · by_cases hk : k = n
    · subst hk; simp only [if_pos]; rw [atKey_del_same]; rfl
    · simp only [if_neg hk]; rw [atKey_del_other (ik_ne (Ne.symm hk)), r.at_]
  · by_cases hk : k = n
    · subst hk; simp only [if_pos]; rw [has_del_same]; rfl
    · simp only [if_neg hk]; rw [has_del_other (ik_ne (Ne.symm hk)), r.has]
section
variable {F : Nat → Prop} {p m : Nat} {last : Int} {L : List FT} {N : Nat} {K : KM} {V : Int → Value} {w w' : World} {n : Int}
def dropL (L : List FT) (n : Int) : List FT := L.filter fun t => decide (t.id ≠ n)
theorem end_no (h : FS F p m last L N K V w) (hw : (Lit.int .i64 n).wf = true) (hf : find L n = none) : Calls Try.prog 14 #[.pointer (some ⟨p, 0, none⟩), .int .i64 n] w fun e w' => e = .returned (.tuple #[.slice none 0 0, .bool false]) ∧ w = w' := by
  have hl := h.look hw
  have hc := h.c1
  rw [h.no n (find_none hf)] at hl
  simp only [pv, Option.isSome_none] at hl
  clear h hf
  go_enter Try.func14, Try.ntmps14
  go_wp2
  go_ret2
  exact ⟨rfl, rfl⟩
set_option maxRecDepth 100000 in
set_option maxHeartbeats 1000000 in
theorem end_yes (h : FS F p m last L N K V w) (hw : (Lit.int .i64 n).wf = true) {t : FT} (hf : find L n = some t) : Calls Try.prog 14 #[.pointer (some ⟨p, 0, none⟩), .int .i64 n] w fun e w' => ∃ A c K', e = .returned (.tuple #[.slice A t.who.length c, .bool true]) ∧ IS w' A t.who ∧ FS F p m last (dropL L n) N K' V w' ∧ Tn F F w w' := by
  have hl := h.look hw
  have hc := h.c1
  obtain ⟨b, hk, hi, hF, hV⟩ := h.at_ hf
  obtain ⟨D, hm, hr⟩ := h.map
  have HH := Lib.hid h
  have HR := Lib.hid hr
  have HK := Lib.hid hk
  rw [hk] at hl
  simp only [pv, Option.isSome_some] at hl
  have HB := Lib.hid hi.blk
  obtain ⟨A, c, hA⟩ := row_slice hi.own
  have HO := Lib.hid hi.own
  have HA := Lib.hid hA
  clear h hf hi hF hV hk hr hA
  have hbm : b ≠ m := by
    rintro rfl
    obtain ⟨es, clock, hb, _⟩ := hm
    rw [HB.out] at hb; cases hb
  have HBM := Lib.hid hbm
  clear hbm
  go_enter Try.func14, Try.ntmps14
  go_wp2_with (at_delete; refine wpList_delete_own _ rfl _ _ 85 2 rfl 89 law2 Try.underlying85 Rk m N D rfl hm _ _ rfl (keyOf_int_mk Try.underlying2 hw) ?_; intro w1 hown1 hturn1; have c15 : w1.cell? ⟨b, 15, none⟩ = some (.slice A t.who.length c) := (by rw [← HA.out]; exact cell_of (obj_turned HB.out hturn1 HBM.out) rfl); have HW1 := Lib.hid hown1; have HT1 := Lib.hid hturn1; clear hown1 hturn1)
  go_ret2
  have cc : Ch (fun j => j = m) w w1 := (Ch.refl _ w).turned HT1.out (.inl rfl)
  obtain ⟨r1, r2⟩ := HH.out.del (n := n) cc ⟨_, HW1.out, rel_del HR.out n⟩
  have ho := HO.out
  rw [HA.out] at ho
  have ho1 := cc.ownsRow ho (fun k hk e => by
    obtain ⟨cs, h'⟩ := own_type ho hk
    obtain ⟨D', ⟨es, clock, hb, _⟩, _⟩ := HH.out.map
    rw [e] at h'
    rw [h'] at hb; cases hb)
  exact ⟨A, c, _, rfl, IS.of_row ho1, r1, r2⟩
end
end Go.Proofs.Ytiagnkmiibaacaa
