/- The example of the statements holds: 'wakes' returns true and leaves what was there. Conditions: none. -/
import Derived.Test.YteadclkpoikobaaB3
import Derived.Test.YteadclkpoikobaaB4
namespace Go.Proofs.Yteadclkpoikobaa
open Go.RowKit Go.Maps Go.ChangeMaps Go.WideMaps

theorem add_at {b m n : Nat} {all share : Int} {L : List Ln} {t : ByteArray} {v : Int} {w : World} (c : Int) (L' : List Ln) (h : BookL w b m all share L n) (hn : n < 1000000) (ht : t.size ≤ maxLen) (hc : addE all share L t v = c) (hL : addL all share L t v = L') :
    Calls Try.prog 17 #[.pointer (some ⟨b, 0, none⟩), .string t, .int .i64 v] w fun e w' => e = .returned (.int .i64 c) ∧ BookL w' b m all share L' (n + 1) ∧ Ch (fun k => k = b ∨ k = m) w w' := by
  subst hc hL
  exact add_any h hn ht
theorem over_at {b m n : Nat} {all share : Int} {L : List Ln} {t : ByteArray} {v : Int} {w : World} (p q c : Int) (h : BookL w b m all share L n) (ht : t.size ≤ maxLen) (hc : overR all share L t v = (p, q, c)) :
    Calls Try.prog 12 #[.pointer (some ⟨b, 0, none⟩), .string t, .int .i64 v] w fun e w' => e = .returned (.tuple #[.int .i64 p, .int .i64 q, .int .i64 c]) ∧ BookL w' b m all share L n ∧ Ch (fun _ => False) w w' := by
  refine (over_any h ht).mono ?_
  rintro e w' ⟨rfl, k, rfl⟩
  rw [hc]
  exact ⟨rfl, h.drewN k, chN _ _ _⟩

abbrev sA : ByteArray := ⟨#[97]⟩
abbrev sB : ByteArray := ⟨#[98]⟩
abbrev sC : ByteArray := ⟨#[99]⟩

set_option maxRecDepth 100000 in
set_option maxHeartbeats 1000000 in
theorem wakes_any (w : World) : Calls Try.prog 9 #[] w fun e w' => e = .returned (.bool true) ∧ Ch (fun _ => False) w w' := by
  have a1 := fun b m W (h : BookL W b m 10 6 [] 0) => Lib.hid (add_at (t := sA) (v := 6) 0 [(sA, 6)] h (by omega) (by unfold maxLen; decide) (by decide) (by decide))
  have a2 := fun b m W (h : BookL W b m 10 6 [(sA, 6)] 1) => Lib.hid (add_at (t := sB) (v := 3) 0 [(sA, 6), (sB, 3)] h (by omega) (by unfold maxLen; decide) (by decide) (by decide))
  have a3 := fun b m W (h : BookL W b m 10 6 [(sA, 6), (sB, 3)] 2) => Lib.hid (add_at (t := sC) (v := 2) 5 [(sA, 6), (sB, 3)] h (by omega) (by unfold maxLen; decide) (by decide) (by decide))
  have o1 := fun b m W (h : BookL W b m 10 6 [(sA, 6), (sB, 3)] 2) => Lib.hid (over_at (t := sA) (v := 2) 2 0 0 h (by unfold maxLen; decide) (by decide))
  have o2 := fun b m W (h : BookL W b m 10 6 [(sA, 6), (sB, 3)] 2) => Lib.hid (over_at (t := sB) (v := 3) 0 2 0 h (by unfold maxLen; decide) (by decide))
  go_enter Try.func9, Try.ntmps9
  go_wp2_with fail
  refine (new_yes 10 6 _ (by omega) (by omega) (by omega)).mono ?_
  rintro e w1 ⟨b, m, rfl, hb, hm, B0, c0⟩
  go_wp2_with fail
  refine (a1 _ _ _ B0).out.mono ?_
  rintro e w2 ⟨rfl, B1, c1⟩
  go_wp2_with fail
  refine (a2 _ _ _ B1).out.mono ?_
  rintro e w3 ⟨rfl, B2, c2⟩
  go_wp2_with fail
  refine (o1 _ _ _ B2).out.mono ?_
  rintro e w4 ⟨rfl, B3, c3⟩
  go_wp2_with fail
  refine (o2 _ _ _ B3).out.mono ?_
  rintro e w5 ⟨rfl, B4, c4⟩
  go_wp2_with fail
  refine (a3 _ _ _ B4).out.mono ?_
  rintro e w6 ⟨rfl, B5, c5⟩
  go_wp2_with fail
  go_ret
  refine ⟨rfl, ?_⟩
  exact ((((c0.trans c1 (fun k hk hl => by omega)).trans c2 (fun k hk hl => by omega)).trans c3 (fun k hk hl => hk)).trans c4 (fun k hk hl => hk)).trans c5 (fun k hk hl => by omega)
end Go.Proofs.Yteadclkpoikobaa
