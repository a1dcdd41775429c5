/-
  The sorted keys of a map: the library's contract laid at this program, in plain words. Conditions: those of each theorem. Made by the kit's lay-iter and a program of this seat that writes its layings out.
-/
import Derived.Shelf.SlIter.Nil
import Derived.Shelf.SortM.Plain
import Derived.Shelf.SortM.SortNone
import Derived.Test.YteadclkpoikobaaProg
namespace Go.Proofs
open Go.RowKit Go.Maps Go.Sort Go.Shelf

-- maps.Keys[map[string]int64,string,int64] (function 29; its iterator 38) · slices.Sorted[string] (28) · slices.Sort[[]string,string] (37) · the map's type 55, the keys' 9
def Try.keys29_ren : Go.Shelf.Ren := ⟨fun | 7 => 29 | 10 => 38 | n => n, fun | 23 => 55 | 26 => 9 | 3 => 2 | 28 => 61 | 0 => 0 | 27 => 60 | 33 => 69 | 4 => 4 | n => n, fun | n => n⟩
theorem Try.keys29 : Go.Proofs.SlLaysZ.n7 Try.prog Try.keys29_ren := {
  mixed := by kernel_rfl
  f7 := ⟨Try.f29.name, by decide, Try.func29.trans (congrArg some (by kernel_rfl))⟩
  f10 := ⟨Try.f38.name, by decide, Try.func38.trans (congrArg some (by kernel_rfl))⟩
  t0 := Try.underlying0
  a0 := Try.isAgg0
  z0 := Try.sizeOf0
  v0 := Try.zeroValue0
  t4 := Try.underlying4
  a4 := Try.isAgg4
  z4 := Try.sizeOf4
  v4 := Try.zeroValue4
  t23 := Try.underlying55
  a23 := Try.isAgg55
  z23 := Try.sizeOf55
  v23 := Try.zeroValue55
  t26 := Try.underlying9
  a26 := Try.isAgg9
  z26 := Try.sizeOf9
  v26 := Try.zeroValue9
  t27 := Try.underlying60
  a27 := Try.isAgg60
  z27 := Try.sizeOf60
  v27 := Try.zeroValue60
  t28 := Try.underlying61
  a28 := Try.isAgg61
  z28 := Try.sizeOf61
  v28 := Try.zeroValue61
  t33 := Try.underlying69
  a33 := Try.isAgg69
  z33 := Try.sizeOf69
  v33 := Try.zeroValue69 }
def Try.sorted28_ren : Go.Shelf.Ren := ⟨fun | 6 => 28 | 8 => 36 | 9 => 37 | 11 => 39 | 13 => 41 | 12 => 40 | 23 => 51 | 24 => 52 | 14 => 42 | 15 => 43 | 16 => 44 | 17 => 45 | 18 => 46 | 19 => 47 | 20 => 48 | 21 => 49 | 22 => 50 | 25 => 53 | 26 => 54 | 27 => 55 | 28 => 56 | 29 => 57 | 30 => 58 | 31 => 59 | n => n, fun | 26 => 9 | 28 => 61 | 24 => 40 | 0 => 0 | 3 => 3 | 37 => 75 | 48 => 86 | 50 => 88 | 4 => 4 | 40 => 78 | 39 => 77 | 45 => 83 | 5 => 5 | 9 => 9 | 51 => 89 | 55 => 93 | 57 => 95 | 58 => 96 | 33 => 69 | n => n, fun | n => n⟩
theorem Try.sorted28 : Go.Proofs.SlLaysZ.n6 Try.prog Try.sorted28_ren := {
  mixed := by kernel_rfl
  f6 := ⟨Try.f28.name, by decide, Try.func28.trans (congrArg some (by kernel_rfl))⟩
  f8 := ⟨Try.f36.name, by decide, Try.func36.trans (congrArg some (by kernel_rfl))⟩
  f11 := ⟨Try.f39.name, by decide, Try.func39.trans (congrArg some (by kernel_rfl))⟩
  t0 := Try.underlying0
  a0 := Try.isAgg0
  z0 := Try.sizeOf0
  v0 := Try.zeroValue0
  t24 := Try.underlying40
  a24 := Try.isAgg40
  z24 := Try.sizeOf40
  v24 := Try.zeroValue40
  t26 := Try.underlying9
  a26 := Try.isAgg9
  z26 := Try.sizeOf9
  v26 := Try.zeroValue9
  t28 := Try.underlying61
  a28 := Try.isAgg61
  z28 := Try.sizeOf61
  v28 := Try.zeroValue61
  i26 := by kernel_rfl }
def Try.sort37_ren : Go.Shelf.Ren := ⟨fun | 6 => 37 | 8 => 41 | 9 => 40 | 19 => 51 | 20 => 52 | 21 => 42 | 22 => 43 | 23 => 44 | 24 => 45 | 25 => 46 | 26 => 47 | 27 => 48 | 28 => 49 | 29 => 50 | 36 => 53 | 31 => 54 | 32 => 55 | 37 => 56 | 38 => 57 | 39 => 58 | 41 => 59 | n => n, fun | 27 => 40 | 29 => 9 | 3 => 3 | 32 => 75 | 26 => 40 | 0 => 0 | 44 => 86 | 46 => 88 | 4 => 4 | 36 => 78 | 35 => 77 | 41 => 83 | 5 => 5 | 9 => 9 | 53 => 89 | 57 => 93 | 63 => 95 | 64 => 96 | n => n, fun | n => n⟩
theorem Try.sort37 : Go.Proofs.SlLaysM.n6 Try.prog Try.sort37_ren := {
  mixed := by kernel_rfl
  f6 := ⟨Try.f37.name, by decide, Try.func37.trans (congrArg some (by kernel_rfl))⟩
  f8 := Try.func41.trans (congrArg some (by kernel_rfl))
  f9 := ⟨Try.f40.name, by decide, Try.func40.trans (congrArg some (by kernel_rfl))⟩
  f19 := Try.func51.trans (congrArg some (by kernel_rfl))
  f20 := Try.func52.trans (congrArg some (by kernel_rfl))
  f21 := ⟨Try.f42.name, by decide, Try.func42.trans (congrArg some (by kernel_rfl))⟩
  f22 := ⟨Try.f43.name, by decide, Try.func43.trans (congrArg some (by kernel_rfl))⟩
  f23 := ⟨Try.f44.name, by decide, Try.func44.trans (congrArg some (by kernel_rfl))⟩
  f24 := ⟨Try.f45.name, by decide, Try.func45.trans (congrArg some (by kernel_rfl))⟩
  f25 := ⟨Try.f46.name, by decide, Try.func46.trans (congrArg some (by kernel_rfl))⟩
  f26 := ⟨Try.f47.name, by decide, Try.func47.trans (congrArg some (by kernel_rfl))⟩
  f27 := ⟨Try.f48.name, by decide, Try.func48.trans (congrArg some (by kernel_rfl))⟩
  f28 := ⟨Try.f49.name, by decide, Try.func49.trans (congrArg some (by kernel_rfl))⟩
  f29 := ⟨Try.f50.name, by decide, Try.func50.trans (congrArg some (by kernel_rfl))⟩
  f31 := Try.func54.trans (congrArg some (by kernel_rfl))
  f32 := Try.func55.trans (congrArg some (by kernel_rfl))
  f36 := ⟨Try.f53.name, by decide, Try.func53.trans (congrArg some (by kernel_rfl))⟩
  f37 := ⟨Try.f56.name, by decide, Try.func56.trans (congrArg some (by kernel_rfl))⟩
  f38 := ⟨Try.f57.name, by decide, Try.func57.trans (congrArg some (by kernel_rfl))⟩
  f39 := ⟨Try.f58.name, by decide, Try.func58.trans (congrArg some (by kernel_rfl))⟩
  f41 := ⟨Try.f59.name, by decide, Try.func59.trans (congrArg some (by kernel_rfl))⟩
  t0 := Try.underlying0
  a0 := Try.isAgg0
  z0 := Try.sizeOf0
  v0 := Try.zeroValue0
  t3 := Try.underlying3
  a3 := Try.isAgg3
  z3 := Try.sizeOf3
  v3 := Try.zeroValue3
  t4 := Try.underlying4
  a4 := Try.isAgg4
  z4 := Try.sizeOf4
  v4 := Try.zeroValue4
  t5 := Try.underlying5
  a5 := Try.isAgg5
  z5 := Try.sizeOf5
  v5 := Try.zeroValue5
  t9 := Try.underlying9
  a9 := Try.isAgg9
  z9 := Try.sizeOf9
  v9 := Try.zeroValue9
  t26 := Try.underlying40
  a26 := Try.isAgg40
  z26 := Try.sizeOf40
  v26 := Try.zeroValue40
  t27 := Try.underlying40
  a27 := Try.isAgg40
  z27 := Try.sizeOf40
  v27 := Try.zeroValue40
  t29 := Try.underlying9
  a29 := Try.isAgg9
  z29 := Try.sizeOf9
  v29 := Try.zeroValue9
  t32 := Try.underlying75
  a32 := Try.isAgg75
  z32 := Try.sizeOf75
  v32 := Try.zeroValue75
  t35 := Try.underlying77
  a35 := Try.isAgg77
  z35 := Try.sizeOf77
  v35 := Try.zeroValue77
  t36 := Try.underlying78
  a36 := Try.isAgg78
  z36 := Try.sizeOf78
  v36 := Try.zeroValue78
  t41 := Try.underlying83
  a41 := Try.isAgg83
  z41 := Try.sizeOf83
  v41 := Try.zeroValue83
  t44 := Try.underlying86
  a44 := Try.isAgg86
  z44 := Try.sizeOf86
  v44 := Try.zeroValue86
  t46 := Try.underlying88
  a46 := Try.isAgg88
  z46 := Try.sizeOf88
  v46 := Try.zeroValue88
  t53 := Try.underlying89
  a53 := Try.isAgg89
  z53 := Try.sizeOf89
  v53 := Try.zeroValue89
  t57 := Try.underlying93
  a57 := Try.isAgg93
  z57 := Try.sizeOf93
  v57 := Try.zeroValue93
  t63 := Try.underlying95
  a63 := Try.isAgg95
  z63 := Try.sizeOf95
  v63 := Try.zeroValue95
  t64 := Try.underlying96
  a64 := Try.isAgg96
  z64 := Try.sizeOf96
  v64 := Try.zeroValue96 }

/-- slices.Sort's two contracts at this dump, at the fence that asks nothing. -/
theorem Try.sorts28 (m : Nat) : AnyZ.SortsIn Try.prog Try.sorted28_ren Fence.wide m :=
  ⟨fun blk off cap ss W hH hblk hsz => callsIn_wide.2 (AnyM.slices_Sort_string Try.sort37 blk off cap ss W hH hblk hsz),
   fun p cap W => callsIn_wide.2 (AnyM.slices_Sort_string_none Try.sort37 p cap W)⟩

/-- **maps.Keys[map[string]int64,string,int64], at whatever map, the nil one too:** a function value over ONE NEW BLOCK, which holds the map. -/
theorem Try.maps_Keys_29 (mb : Option Nat) (W : World) : CallsIn Fence.wide 5 Try.prog 29 #[.map mb] W fun e w' => e = .returned (.func (.func 38) #[] #[.pointer (some ⟨W.heap.size, 0, none⟩)]) ∧ w' = W.alloc (.cells #[.map mb] 55) :=
  AnyZ.keys_in Try.keys29 Fence.wide 5 trivial rfl mb W

set_option maxHeartbeats 1000000 in
/-- **slices.Sorted[string] AT WHAT maps.Keys[map[string]int64,string,int64] HANDED BACK FOR A MAP THAT IS NOT nil** ('w': the world AHEAD of maps.Keys' call): A NEW SLICE THAT HOLDS THE MAP's KEYS, SORTED; nil just where it has none; nothing that lay before has turned. -/
theorem Try.slices_Sorted_keys_28_29 {H : Type} (b nn : Nat) (D0 : DataW H) (R : Value → Option (DataW H × List MemPlace)) (w : World) (hown : w.ownsMap Try.prog 9 R b nn D0) (hmax : Maps.size D0 ≤ maxLen) (hbytes : Maps.size D0 * 16 ≤ 140737488355328) :
    CallsIn Fence.wide 5 Try.prog 28 #[.func (.func 38) #[] #[.pointer (some ⟨w.heap.size, 0, none⟩)]] (w.alloc (.cells #[.map (some b)] 55)) fun e w' => ∃ (v : Value) (ss : List (List UInt8)), e = .returned v ∧ ss.Perm (strKeys D0) ∧
      w'.ownsRow (w.alloc (.cells #[.map (some b)] 55)).heap.size 9 1 v ss.length ((ss.mergeSort (fun x y => decide (x ≤ y))).map encStr) ∧ (v = .slice none 0 0 ↔ ss = []) ∧ Below (w.alloc (.cells #[.map (some b)] 55)).heap.size (w.alloc (.cells #[.map (some b)] 55)) w' := by
  have hbl := hown.lt
  have hseq : SeqGives Fence.wide 2 Try.prog 38 #[.pointer (some ⟨w.heap.size, 0, none⟩)] encStr (fun ss => ss.Perm (strKeys D0)) (Maps.size D0) (w.alloc (.cells #[.map (some b)] 55)) :=
    AnyZ.keys_gives (ρ := Try.keys29_ren) { Try.keys29 with } Fence.wide _ trivial rfl (by omega) w.heap.size b nn D0 _ (by simp) (by simp) (by
      obtain ⟨es, clock, hb, Ft, hs, hD⟩ := hown
      exact ⟨es, clock, (Below.heap_alloc _ _ b hbl).trans hb, Ft, hs, hD⟩)
  exact AnyZ.sorted_in Try.sorted28 Fence.wide 5 trivial trivial trivial trivial rfl (by omega) (Try.sorts28 _) (enters_of Try.func37 (by kernel_rfl) rfl) 38 #[.pointer (some ⟨w.heap.size, 0, none⟩)] trivial (enters_of Try.func38 (by kernel_rfl) rfl) _ _ hmax hbytes _ hseq

set_option maxHeartbeats 1000000 in
/-- **.. AND FOR THE nil MAP: nil.** -/
theorem Try.slices_Sorted_keys_nil_28_29 (w : World) :
    CallsIn Fence.wide 5 Try.prog 28 #[.func (.func 38) #[] #[.pointer (some ⟨w.heap.size, 0, none⟩)]] (w.alloc (.cells #[.map none] 55)) fun e w' => ∃ (v : Value) (ss : List (List UInt8)), e = .returned v ∧ ss = [] ∧
      w'.ownsRow (w.alloc (.cells #[.map none] 55)).heap.size 9 1 v ss.length ((ss.mergeSort (fun x y => decide (x ≤ y))).map encStr) ∧ (v = .slice none 0 0 ↔ ss = []) ∧ Below (w.alloc (.cells #[.map none] 55)).heap.size (w.alloc (.cells #[.map none] 55)) w' := by
  have hseq : SeqGives Fence.wide 2 Try.prog 38 #[.pointer (some ⟨w.heap.size, 0, none⟩)] encStr (fun ss : List (List UInt8) => ss = []) 0 (w.alloc (.cells #[.map none] 55)) :=
    AnyZ.keys_gives_nil (ρ := Try.keys29_ren) { Try.keys29 with } Fence.wide _ trivial rfl w.heap.size _ (by simp) (by simp)
  exact AnyZ.sorted_in Try.sorted28 Fence.wide 5 trivial trivial trivial trivial rfl (by omega) (Try.sorts28 _) (enters_of Try.func37 (by kernel_rfl) rfl) 38 #[.pointer (some ⟨w.heap.size, 0, none⟩)] trivial (enters_of Try.func38 (by kernel_rfl) rfl) _ 0 (Nat.zero_le _) (by omega) _ hseq

-- THE CALLER's WALK over 'slices.Sorted(maps.Keys(m))' (inside '(callsIn_wide (n := 6)).1'; 'have hfK : Fence.wide.fn 29 := trivial', 'have hfS : Fence.wide.fn 28 := trivial' ahead): THE TWO ARMS TO PASTE:
--   gi_wp2_with (first
--     | (gi_at_call 29; refine (Try.maps_Keys_29 _ _).mono ?_; rintro e w' ⟨rfl, rfl⟩)
--     | (gi_at_call 28; refine (Try.slices_Sorted_keys_28_29 b nn D0 R w hown hmax hbytes).mono ?_; rintro e w' ⟨v, ss, rfl, hS, hrow, hnil, hb⟩))


end Go.Proofs
