/- slices.Grow of the nil slice of spans; slices.Concat needs it. Conditions: the number is not negative, and below 2^40. -/
import Derived.Test.YtbgojgoejlhgeaaDoorM3
import Derived.Lib.Walk
import Derived.Lib.SliceRun
import Derived.Lib.AppendZerosOnto
namespace Go.Proofs.YtbgojgoejlhgeaaDoor.Pr
open Go.RowKit Go.Lib Go.Proofs.YtbgojgoejlhgeaaDoorW.PrintWords
theorem own_empty {w : World} {base g cap : Nat} {cur : Array Value} (hb : base ≤ g) (hh : w.heap[g]? = some (.cells cur 42 (0, 0))) (hm : cap ≤ maxLen) (hs : cur.size = cap * 2) :
    Kd.R k42 42 w base (fun _ => True) (.slice (some ⟨g, 0, none⟩) 0 cap) [] :=
  ⟨fun _ _ => trivial, [], ⟨rfl, .inr ⟨g, cap, cur, rfl, hb, hh, Nat.zero_le _, hm, hs, by simp⟩⟩, Reps.none _ _⟩
set_option maxHeartbeats 4000000 in
set_option maxRecDepth 100000 in
theorem grow56 (n : Nat) (hn : n < 1099511627776) (w : World) : Calls Tryd.prog 56 #[.slice none 0 0, .int .i64 n] w fun e w' => ∃ v, e = .returned v ∧ Kd.R k42 42 w' w.heap.size (fun _ => True) v [] ∧ Below w.heap.size w w' := by
  by_cases h0 : n = 0
  · subst h0
    go_enter Tryd.func56, Tryd.ntmps56
    go_wp2
    go_ret
    exact ⟨_, rfl, Kd.R_nil _ _ _ _ _, Below.refl _ _⟩
  · obtain ⟨i0, hi0, hzz⟩ := Option.map_eq_some_iff.1 info42
    simp only [Prod.mk.injEq] at hzz
    obtain ⟨hz0, hz1, hz2⟩ := hzz
    have hold : (Builtin.firstCells i0.size 0 (.slice none 0 0)).run Tryd.prog w.drew = .ok ([] : List Value).toArray w.drew := run_firstCells_none w.drew i0.size 0 0 0
    have hrz : ∀ ty, (Builtin.append_ #[22, 3] ty #[.slice none 0 0, .int .i64 (n : Int)]).run Tryd.prog w =
        .ok (.slice (some ⟨w.heap.size, 0, none⟩) n (grownCap w n 0 42)) (w.drew.alloc (.cells (#[] ++ Builtin.zeroCells (Value.agg #[(.int .i64 0), (.int .i64 0)]).cells n ++ Builtin.zeroCells (Value.agg #[(.int .i64 0), (.int .i64 0)]).cells (grownCap w n 0 42 - n)) 42)) := fun ty => by
      have h := Lib.run_append_grow_zeros w 22 3 ty 42 i0 _ .i64 .i64 Tryd.underlying22 Tryd.underlying3 hi0 hz0 none 0 0 [] hold n (by omega) (by rw [hz1]; omega) (by omega) (by omega) (by rw [hz2]; omega) (by rw [Nat.zero_add]; exact growslice_fits (by omega) (by rw [hz2]; omega))
      rw [Nat.zero_add] at h
      exact h
    have hGn : n ≤ grownCap w n 0 42 := grownCap_ge w _ _ _
    have hGm : grownCap w n 0 42 ≤ maxLen := grownCap_le_maxLen w n 0 42 (by unfold maxLen; omega)
    generalize grownCap w n 0 42 = G at hrz hGn hGm
    have hG63 : G ≤ 9223372036854775807 := by unfold maxLen at hGm; omega
    have hsz : (#[] ++ Builtin.zeroCells (Value.agg #[(.int .i64 0), (.int .i64 0)]).cells n ++ Builtin.zeroCells (Value.agg #[(.int .i64 0), (.int .i64 0)]).cells (G - n)).size = G * 2 := by
      rw [Array.size_append, Array.size_append, size_zeroCells, size_zeroCells]
      show 0 + n * 2 + (G - n) * 2 = G * 2
      omega
    generalize (#[] ++ Builtin.zeroCells (Value.agg #[(.int .i64 0), (.int .i64 0)]).cells n ++ Builtin.zeroCells (Value.agg #[(.int .i64 0), (.int .i64 0)]).cells (G - n)) = cur at hrz hsz
    have h1 : ¬ ((n : Int) < 0) := by omega
    have h3 : wrap64 ((n : Int) - 0) = (n : Int) := by unfold wrap64; omega
    have h4 : (n : Int) > 0 := by omega
    have h2 : wrap64 ((0 : Int) - 0) = 0 := by unfold wrap64; omega
    have HB : Hid (Below w.heap.size w (w.drew.alloc (.cells cur 42))) := (below_drew1 (Below.refl _ w)).alloc (Nat.le_refl _) _
    have HR : Hid (Kd.R k42 42 (w.drew.alloc (.cells cur 42)) w.heap.size (fun _ => True) (.slice (some ⟨w.heap.size, 0, none⟩) 0 G) []) := own_empty (Nat.le_refl _) (heap_alloc_new w.drew _) hGm hsz
    clear hold hi0 hz0 hz1 hz2
    go_enter Tryd.func56, Tryd.ntmps56
    go_wp2_with (at_builtin; refine Lib.wpList_append_run _ rfl _ _ _ _ rfl _ _ rfl rfl _ _ (hrz _) ?_)
    go_ret
    exact ⟨_, rfl, HR.out, HB.out⟩
def slices_Grow42.f (l : List S42) (n : Int) : Option (List S42) := if l = [] ∧ 0 ≤ n ∧ n < 1099511627776 then some [] else none
theorem slices_Grow42.calls (A0 : Option Addr) (c0 : Nat) (l0 : List S42) (a1 : Int) (r : List S42) (w : World) (_hr0 : Kd.C k42 w A0 l0.length l0) (_hc0 : l0.length ≤ c0) (h : slices_Grow42.f l0 a1 = some r) (hA : A0 = none) (hc : c0 = 0) :
    Calls Tryd.prog 56 #[.slice A0 l0.length c0, .int .i64 a1] w fun e w' => ∃ v0_ : Value, e = .returned v0_ ∧ Kd.R k42 42 w' w.heap.size (fun _ => True) v0_ r ∧ Below w.heap.size w w' := by
  unfold slices_Grow42.f at h
  by_cases hl : l0 = [] ∧ 0 ≤ a1 ∧ a1 < 1099511627776
  · rw [if_pos hl] at h
    obtain rfl := Option.some.inj h
    obtain ⟨rfl, h0, h1⟩ := hl
    subst hA hc
    obtain ⟨n, rfl⟩ := Int.eq_ofNat_of_zero_le h0
    exact grow56 n (by omega) w
  · rw [if_neg hl] at h; cases h
end Go.Proofs.YtbgojgoejlhgeaaDoor.Pr
