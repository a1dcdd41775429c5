/- The book of a budget in memory, and what the program's calls on it do. Conditions: the book lies in memory as New laid it. -/
import Derived.Test.YteadclkpoikobaaRows
import Derived.Test.YteadclkpoikobaaFr
import Derived.WalkLawsBesides
import Derived.WalkSpells
import Derived.Lib.Hide
namespace Go.Proofs.Yteadclkpoikobaa
open Go.RowKit Go.Maps Go.ChangeMaps Go.WideMaps

theorem law9 : Keyed Try.prog 9 := string_keyed Try.underlying9
theorem zero2 (w : World) : (zeroValue 2).run Try.prog w = .ok (.int .i64 0) w := by kernel_rfl

abbrev sk (t : ByteArray) : Lit := .string t.data.toList
noncomputable abbrev El : Value → Option (DataW Unit × List MemPlace) := plainElem Try.prog 2

/-- a book at block b, its map at block m -/
structure BookAt (w : World) (b m : Nat) (all share sum : Int) (D : DataW Unit) (n : Nat) : Prop where
  obj : w.heap[b]? = some (.cells #[.int .i64 all, .int .i64 share, .int .i64 sum, .map (some m)] 57)
  map : w.ownsMap Try.prog 9 El m n D

theorem BookAt.ne {w : World} {b m : Nat} {all share sum : Int} {D : DataW Unit} {n : Nat} (h : BookAt w b m all share sum D n) : b ≠ m := by
  rintro rfl
  obtain ⟨es, clock, hb, _⟩ := h.map
  rw [h.obj] at hb
  cases hb

theorem wf64 (n : Int) : (Lit.int .i64 (wrap64 n)).wf = true := wrap64_wf _

set_option maxRecDepth 100000 in
set_option maxHeartbeats 400000 in
theorem put_any (b m n : Nat) (all share sum v c : Int) (D : DataW Unit) (t : ByteArray) (w : World) (hB : BookAt w b m all share sum D n) (hn : n < maxLen) (ht : t.size ≤ maxLen)
    (hc : D.atKey (sk t) (.lit (.int .i64 0)) = .lit (.int .i64 c)) (hv : (Lit.int .i64 v).wf = true) :
    Calls Try.prog 27 #[.pointer (some ⟨b, 0, none⟩), .string t, .int .i64 v] w fun e w' => e = .returned (.tuple #[]) ∧
      BookAt w' b m all share (wrap64 (sum + wrap64 (v - c))) (if v = 0 then D.del (sk t) else D.put (sk t) (.lit (.int .i64 v))) (n + 1) ∧ Ch (fun k => k = b ∨ k = m) w w' := by
  have hne := hB.ne
  obtain ⟨hobj, hmap⟩ := hB
  have c2 := cell_of (off := 2) (v := .int .i64 sum) hobj rfl
  have c3 := cell_of (off := 3) (v := .map (some m)) hobj rfl
  have f2 := frozen_of (off := 2) hobj
  have hkey := keyOf_string_mk (P := Try.prog) Try.underlying9 ht
  have hl : ∀ W : World, W.ownsMap Try.prog 9 El m n D → (Instr.lookup 55 (.map (some m)) (.string t) false).run Try.prog W = .ok (.int .i64 c) W := by
    intro W hW
    obtain ⟨c', hr, hat, _⟩ := hW.lookup_int law9 Try.underlying55 Try.underlying2 (zero2 _) hkey
    rw [hc] at hat
    cases hat
    exact hr
  have hl1 := hl w.drew hmap
  clear hl
  have hmap2 : ∀ u, (w.setCell ⟨b, 2, none⟩ u).drew.ownsMap Try.prog 9 El m n D := fun u => (hmap.setCell (a := ⟨b, 2, none⟩) (Ne.symm hne) u).drew
  have hobj2 : ∀ u, (w.setCell ⟨b, 2, none⟩ u).drew.heap[b]? = some (.cells #[.int .i64 all, .int .i64 share, u, .map (some m)] 57) := fun u => obj_setCell hobj
  have HM := Lib.hid hmap2
  have HO := Lib.hid hobj2
  have HC := Lib.hid hc
  have HN := Lib.hid hne
  clear hmap2 hobj2 hc hobj hmap hne
  by_cases hz : v = 0
  · subst hz
    go_enter Try.func27, Try.ntmps27
    go_wp2
    go_region
    go_wp2_with (at_delete; refine wpList_delete_own _ rfl _ _ 55 9 rfl 2 law9 Try.underlying55 El m n D rfl (HM.out _) _ _ rfl hkey ?_; intro w1 hown1 hturn1)
    refine bodyPost_ret (results_none rfl _ _ _) rfl ?_
    exact ⟨rfl, ⟨obj_turned (HO.out _) hturn1 HN.out, hown1.mono (Nat.le_succ _)⟩, (((Ch.refl _ w).setCell (.inl (.inl rfl)) _).drew).turned hturn1 (.inl (.inr rfl))⟩
  · have hz0 : (v == 0) = false := by simpa using hz
    go_enter Try.func27, Try.ntmps27
    go_wp2
    go_region
    go_wp2_with (at_mapUpdate; refine wpList_mapUpdate_in _ rfl _ _ _ 55 rfl 9 2 law9 Try.underlying55 El m n D rfl (HM.out _) hn _ _ _ rfl rfl hkey _ [] (plainElem_int Try.underlying2 hv) ?_; intro w1 hown1 hturn1)
    go_end0
    exact ⟨rfl, ⟨obj_turned (HO.out _) hturn1 HN.out, hown1⟩, (((Ch.refl _ w).setCell (.inl (.inl rfl)) _).drew).turned hturn1 (.inl (.inr rfl))⟩

end Go.Proofs.Yteadclkpoikobaa
