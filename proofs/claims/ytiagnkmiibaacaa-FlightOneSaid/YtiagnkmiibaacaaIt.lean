/-
  slices.Sorted(maps.Keys(m)) at keys of int64: the library's contracts laid at this program, in plain words. Conditions: those of each theorem. The layings are written out by a program of this seat.
-/
import Derived.Shelf.SlIterI.Nil
import Derived.Shelf.SortM.Plain
import Derived.Shelf.SortM.SortNone
import Derived.Test.YtiagnkmiibaacaaProg
namespace Go.Proofs
open Go.RowKit Go.Maps Go.Sort Go.Shelf

def Try.keysA_ren : Go.Shelf.Ren := ⟨fun | 7 => 62 | 10 => 72 | n => n, fun | 23 => 85 | 26 => 2 | 3 => 89 | 28 => 110 | 0 => 0 | 27 => 109 | 33 => 83 | 4 => 4 | n => n, fun | n => n⟩
theorem Try.keysA : Go.Proofs.SlLaysZI.n7 Try.prog Try.keysA_ren := {
  mixed := by kernel_rfl
  f7 := ⟨Try.f62.name, by decide, Try.func62.trans (congrArg some (by kernel_rfl))⟩
  f10 := ⟨Try.f72.name, by decide, Try.func72.trans (congrArg some (by kernel_rfl))⟩
  t0 := Try.underlying0
  a0 := Try.isAgg0
  z0 := Try.sizeOf0
  v0 := Try.zeroValue0
  t4 := Try.underlying4
  a4 := Try.isAgg4
  z4 := Try.sizeOf4
  v4 := Try.zeroValue4
  t23 := Try.underlying85
  a23 := Try.isAgg85
  z23 := Try.sizeOf85
  v23 := Try.zeroValue85
  t26 := Try.underlying2
  a26 := Try.isAgg2
  z26 := Try.sizeOf2
  v26 := Try.zeroValue2
  t27 := Try.underlying109
  a27 := Try.isAgg109
  z27 := Try.sizeOf109
  v27 := Try.zeroValue109
  t28 := Try.underlying110
  a28 := Try.isAgg110
  z28 := Try.sizeOf110
  v28 := Try.zeroValue110
  t33 := Try.underlying83
  a33 := Try.isAgg83
  z33 := Try.sizeOf83
  v33 := Try.zeroValue83 }
def Try.sortedA_ren : Go.Shelf.Ren := ⟨fun | 6 => 61 | 8 => 70 | 9 => 71 | 11 => 78 | 13 => 74 | 12 => 79 | 23 => 88 | 24 => 89 | 14 => 92 | 15 => 93 | 16 => 94 | 17 => 95 | 18 => 96 | 19 => 97 | 20 => 98 | 21 => 99 | 22 => 100 | 25 => 107 | 26 => 102 | 27 => 103 | 28 => 108 | 29 => 109 | 30 => 75 | 31 => 111 | n => n, fun | 26 => 2 | 28 => 110 | 24 => 43 | 0 => 0 | 3 => 3 | 37 => 123 | 48 => 136 | 50 => 138 | 4 => 4 | 40 => 130 | 39 => 129 | 45 => 117 | 5 => 5 | 9 => 9 | 51 => 146 | 55 => 150 | 57 => 155 | 58 => 156 | 33 => 83 | n => n, fun | n => n⟩
theorem Try.sortedA : Go.Proofs.SlLaysZI.n6 Try.prog Try.sortedA_ren := {
  mixed := by kernel_rfl
  f6 := ⟨Try.f61.name, by decide, Try.func61.trans (congrArg some (by kernel_rfl))⟩
  f8 := ⟨Try.f70.name, by decide, Try.func70.trans (congrArg some (by kernel_rfl))⟩
  f11 := ⟨Try.f78.name, by decide, Try.func78.trans (congrArg some (by kernel_rfl))⟩
  t0 := Try.underlying0
  a0 := Try.isAgg0
  z0 := Try.sizeOf0
  v0 := Try.zeroValue0
  t24 := Try.underlying43
  a24 := Try.isAgg43
  z24 := Try.sizeOf43
  v24 := Try.zeroValue43
  t26 := Try.underlying2
  a26 := Try.isAgg2
  z26 := Try.sizeOf2
  v26 := Try.zeroValue2
  t28 := Try.underlying110
  a28 := Try.isAgg110
  z28 := Try.sizeOf110
  v28 := Try.zeroValue110
  i26 := by kernel_rfl }
def Try.sortA_ren : Go.Shelf.Ren := ⟨fun | 5 => 71 | 8 => 74 | 7 => 79 | 19 => 88 | 20 => 89 | 10 => 92 | 11 => 93 | 12 => 94 | 13 => 95 | 14 => 96 | 15 => 97 | 16 => 98 | 17 => 99 | 18 => 100 | 30 => 107 | 31 => 102 | 32 => 103 | 33 => 108 | 34 => 109 | 35 => 75 | 40 => 111 | n => n, fun | 23 => 43 | 25 => 2 | 3 => 3 | 32 => 123 | 22 => 43 | 0 => 0 | 44 => 136 | 46 => 138 | 4 => 4 | 36 => 130 | 35 => 129 | 41 => 117 | 5 => 5 | 9 => 9 | 53 => 146 | 57 => 150 | 63 => 155 | 64 => 156 | n => n, fun | n => n⟩
theorem Try.sortA : Go.Proofs.SlLaysM.n5 Try.prog Try.sortA_ren := {
  mixed := by kernel_rfl
  f5 := ⟨Try.f71.name, by decide, Try.func71.trans (congrArg some (by kernel_rfl))⟩
  f7 := ⟨Try.f79.name, by decide, Try.func79.trans (congrArg some (by kernel_rfl))⟩
  f8 := Try.func74.trans (congrArg some (by kernel_rfl))
  f10 := ⟨Try.f92.name, by decide, Try.func92.trans (congrArg some (by kernel_rfl))⟩
  f11 := ⟨Try.f93.name, by decide, Try.func93.trans (congrArg some (by kernel_rfl))⟩
  f12 := ⟨Try.f94.name, by decide, Try.func94.trans (congrArg some (by kernel_rfl))⟩
  f13 := ⟨Try.f95.name, by decide, Try.func95.trans (congrArg some (by kernel_rfl))⟩
  f14 := ⟨Try.f96.name, by decide, Try.func96.trans (congrArg some (by kernel_rfl))⟩
  f15 := ⟨Try.f97.name, by decide, Try.func97.trans (congrArg some (by kernel_rfl))⟩
  f16 := ⟨Try.f98.name, by decide, Try.func98.trans (congrArg some (by kernel_rfl))⟩
  f17 := ⟨Try.f99.name, by decide, Try.func99.trans (congrArg some (by kernel_rfl))⟩
  f18 := ⟨Try.f100.name, by decide, Try.func100.trans (congrArg some (by kernel_rfl))⟩
  f19 := Try.func88.trans (congrArg some (by kernel_rfl))
  f20 := Try.func89.trans (congrArg some (by kernel_rfl))
  f30 := ⟨Try.f107.name, by decide, Try.func107.trans (congrArg some (by kernel_rfl))⟩
  f31 := Try.func102.trans (congrArg some (by kernel_rfl))
  f32 := Try.func103.trans (congrArg some (by kernel_rfl))
  f33 := ⟨Try.f108.name, by decide, Try.func108.trans (congrArg some (by kernel_rfl))⟩
  f34 := ⟨Try.f109.name, by decide, Try.func109.trans (congrArg some (by kernel_rfl))⟩
  f35 := ⟨Try.f75.name, by decide, Try.func75.trans (congrArg some (by kernel_rfl))⟩
  f40 := ⟨Try.f111.name, by decide, Try.func111.trans (congrArg some (by kernel_rfl))⟩
  t0 := Try.underlying0
  a0 := Try.isAgg0
  z0 := Try.sizeOf0
  v0 := Try.zeroValue0
  t3 := Try.underlying3
  a3 := Try.isAgg3
  z3 := Try.sizeOf3
  v3 := Try.zeroValue3
  t4 := Try.underlying4
  a4 := Try.isAgg4
  z4 := Try.sizeOf4
  v4 := Try.zeroValue4
  t5 := Try.underlying5
  a5 := Try.isAgg5
  z5 := Try.sizeOf5
  v5 := Try.zeroValue5
  t9 := Try.underlying9
  a9 := Try.isAgg9
  z9 := Try.sizeOf9
  v9 := Try.zeroValue9
  t22 := Try.underlying43
  a22 := Try.isAgg43
  z22 := Try.sizeOf43
  v22 := Try.zeroValue43
  t23 := Try.underlying43
  a23 := Try.isAgg43
  z23 := Try.sizeOf43
  v23 := Try.zeroValue43
  t25 := Try.underlying2
  a25 := Try.isAgg2
  z25 := Try.sizeOf2
  v25 := Try.zeroValue2
  t32 := Try.underlying123
  a32 := Try.isAgg123
  z32 := Try.sizeOf123
  v32 := Try.zeroValue123
  t35 := Try.underlying129
  a35 := Try.isAgg129
  z35 := Try.sizeOf129
  v35 := Try.zeroValue129
  t36 := Try.underlying130
  a36 := Try.isAgg130
  z36 := Try.sizeOf130
  v36 := Try.zeroValue130
  t41 := Try.underlying117
  a41 := Try.isAgg117
  z41 := Try.sizeOf117
  v41 := Try.zeroValue117
  t44 := Try.underlying136
  a44 := Try.isAgg136
  z44 := Try.sizeOf136
  v44 := Try.zeroValue136
  t46 := Try.underlying138
  a46 := Try.isAgg138
  z46 := Try.sizeOf138
  v46 := Try.zeroValue138
  t53 := Try.underlying146
  a53 := Try.isAgg146
  z53 := Try.sizeOf146
  v53 := Try.zeroValue146
  t57 := Try.underlying150
  a57 := Try.isAgg150
  z57 := Try.sizeOf150
  v57 := Try.zeroValue150
  t63 := Try.underlying155
  a63 := Try.isAgg155
  z63 := Try.sizeOf155
  v63 := Try.zeroValue155
  t64 := Try.underlying156
  a64 := Try.isAgg156
  z64 := Try.sizeOf156
  v64 := Try.zeroValue156 }

/-- slices.Sort's two contracts at this dump, at the fence that asks nothing. -/
theorem Try.sortsA (m : Nat) : AnyZI.SortsIn Try.prog Try.sortedA_ren Fence.wide m :=
  ⟨fun blk off cap ss W hH hblk hsz => callsIn_wide.2 (AnyM.slices_Sort_int Try.sortA blk off cap ss W hH hblk hsz),
   fun p cap W => callsIn_wide.2 (AnyM.slices_Sort_int_none Try.sortA p cap W)⟩
theorem Try.keysCall (mb : Option Nat) (W : World) : CallsIn Fence.wide 5 Try.prog 62 #[.map mb] W fun e w' => e = .returned (.func (.func 72) #[] #[.pointer (some ⟨W.heap.size, 0, none⟩)]) ∧ w' = W.alloc (.cells #[.map mb] 85) := AnyZI.keys_in Try.keysA Fence.wide 5 trivial rfl mb W
set_option maxHeartbeats 1000000 in
theorem Try.sortedCall {H : Type} (b nn : Nat) (D0 : DataW H) (R : Value → Option (DataW H × List MemPlace)) (w : World) (hown : w.ownsMap Try.prog 2 R b nn D0) (hmax : Maps.size D0 ≤ maxLen) (hbytes : Maps.size D0 * 8 ≤ 140737488355328) :
    CallsIn Fence.wide 5 Try.prog 61 #[.func (.func 72) #[] #[.pointer (some ⟨w.heap.size, 0, none⟩)]] (w.alloc (.cells #[.map (some b)] 85)) fun e w' => ∃ (v : Value) (ss : List Int), e = .returned v ∧ ss.Perm (intKeys D0) ∧
      w'.ownsRow (w.alloc (.cells #[.map (some b)] 85)).heap.size 2 1 v ss.length ((ss.mergeSort (fun x y => decide (x ≤ y))).map encZ) ∧ (v = .slice none 0 0 ↔ ss = []) ∧ Below (w.alloc (.cells #[.map (some b)] 85)).heap.size (w.alloc (.cells #[.map (some b)] 85)) w' := by
  have hbl := hown.lt
  have hseq : SeqGives Fence.wide 2 Try.prog 72 #[.pointer (some ⟨w.heap.size, 0, none⟩)] encZ (fun ss => ss.Perm (intKeys D0)) (Maps.size D0) (w.alloc (.cells #[.map (some b)] 85)) :=
    AnyZI.keys_gives (ρ := Try.keysA_ren) { Try.keysA with } Fence.wide _ trivial rfl (by omega) w.heap.size b nn D0 _ (by simp) (by simp) (by
      obtain ⟨es, clock, hb, Ft, hs, hD⟩ := hown
      exact ⟨es, clock, (Below.heap_alloc _ _ b hbl).trans hb, Ft, hs, hD⟩)
  exact AnyZI.sorted_in Try.sortedA Fence.wide 5 trivial trivial trivial trivial rfl (by omega) (Try.sortsA _) (enters_of Try.func71 (by kernel_rfl) rfl) 72 #[.pointer (some ⟨w.heap.size, 0, none⟩)] trivial (enters_of Try.func72 (by kernel_rfl) rfl) _ _ hmax hbytes _ hseq
end Go.Proofs
