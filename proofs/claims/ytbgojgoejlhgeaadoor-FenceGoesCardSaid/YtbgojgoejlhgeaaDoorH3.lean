/- What the library's SortFunc does at spans, by their first bytes. Conditions: the row is the caller's own. -/
import Derived.Test.YtbgojgoejlhgeaaDoorH2
import Derived.Test.YtbgojgoejlhgeaaDoorSf
import Derived.Lib.Small
namespace Go.Proofs.YtbgojgoejlhgeaaDoor.Pr
open Go.RowKit Go.Proofs.YtbgojgoejlhgeaaDoorW.PrintWords Go.Shelf Go.Sort

theorem nan59 (x : Int) (w : World) : Calls Tryd.prog 59 #[.int .i64 x] w fun e w' => e = .returned (.bool false) ∧ w = w' := by
  go_enter Tryd.func59, Tryd.ntmps59
  go_wp2_with fail
  go_ret
  exact ⟨by simp, rfl⟩
theorem cmp47 (x y : Int) (w : World) : Calls Tryd.prog 47 #[.int .i64 x, .int .i64 y] w fun e w' => e = .returned (.int .i64 (Lib.compareInt x y)) ∧ w = w' := by
  unfold Lib.compareInt
  by_cases h : x < y
  · rw [if_pos h]
    go_enter Tryd.func47, Tryd.ntmps47
    go_wp2_with fail
    refine (nan59 _ _).mono ?_
    rintro e w1 ⟨rfl, rfl⟩
    go_wp2_with fail
    refine (nan59 _ _).mono ?_
    rintro e w1 ⟨rfl, rfl⟩
    go_wp2_with fail
    go_ret
    exact ⟨rfl, rfl⟩
  · rw [if_neg h]
    by_cases h2 : x > y
    · rw [if_pos h2]
      go_enter Tryd.func47, Tryd.ntmps47
      go_wp2_with fail
      refine (nan59 _ _).mono ?_
      rintro e w1 ⟨rfl, rfl⟩
      go_wp2_with fail
      refine (nan59 _ _).mono ?_
      rintro e w1 ⟨rfl, rfl⟩
      go_wp2_with fail
      go_ret
      exact ⟨rfl, rfl⟩
    · rw [if_neg h2]
      go_enter Tryd.func47, Tryd.ntmps47
      go_wp2_with fail
      refine (nan59 _ _).mono ?_
      rintro e w1 ⟨rfl, rfl⟩
      go_wp2_with fail
      refine (nan59 _ _).mono ?_
      rintro e w1 ⟨rfl, rfl⟩
      go_wp2_with fail
      go_ret
      exact ⟨rfl, rfl⟩
instance : Inhabited S42 := ⟨z42⟩
def encS (s : S42) : List Value := [.int .i64 s.f0, .int .i64 s.f1]
def cfS (x y : S42) : Int := Lib.compareInt x.f0 y.f0
theorem cl46 (x y : S42) (W : World) : Calls Tryd.prog 46 #[.agg #[.int .i64 x.f0, .int .i64 x.f1], .agg #[.int .i64 y.f0, .int .i64 y.f1]] W fun e w' => e = .returned (.int .i64 (cfS x y)) ∧ ∃ q os', w' = grow (W.drewN q) os' := by
  have hcon := fun W' => cmp47 x.f0 y.f0 W'
  unfold cfS
  generalize Lib.compareInt x.f0 y.f0 = r at hcon ⊢
  go_enter Tryd.func46, Tryd.ntmps46
  go_wp2_with fail
  refine (hcon _).mono ?_
  rintro e w1 ⟨rfl, rfl⟩
  go_wp2_with fail
  go_ret
  exact ⟨rfl, 0, _, by rw [alloc_eq_grow, alloc_eq_grow, grow_grow]; rfl⟩
theorem ltS (x y : S42) : ltOf cfS x y = decide (x.f0 < y.f0) := by
  unfold ltOf cfS Lib.compareInt
  by_cases h1 : x.f0 < y.f0
  · simp [h1]
  · by_cases h2 : y.f0 < x.f0 <;> simp [h1, h2]
theorem swoS : SWO (ltOf cfS) where
  irrefl x := by rw [ltS]; simp
  trans x y z h1 h2 := by rw [ltS] at *; simp at *; omega
  ntrans x y z h1 h2 := by rw [ltS] at *; simp at *; omega

theorem encS_len (s : S42) : (encS s).length = 2 := rfl
theorem encS_one (s : S42) : ∀ v ∈ encS s, v.oneCell' = true := by intro v hv; simp [encS] at hv; rcases hv with rfl | rfl <;> rfl
theorem heap_grow (w : World) (os : Array Obj) (j : Nat) (h : j < w.heap.size) : (grow w os).heap[j]? = w.heap[j]? := by
  show (w.heap ++ os)[j]? = _
  rw [Array.getElem?_append_left h]
theorem sorted_grown (w : World) (g n : Nat) (d : Array S42) (os : Array Obj) : w.grownBy (sortWorldK encS 2 w g 0 n d os) (some g) := by
  refine ⟨rfl, rfl, rfl, ?_, fun k hk hne => ?_⟩
  · show w.heap.size ≤ ((putRowK encS 2 (Sort.ahead w n) g 0 d).heap ++ os).size
    have : (putRowK encS 2 (Sort.ahead w n) g 0 d).heap.size = w.heap.size := Sort.size_putRow id _ g 0 _
    rw [Array.size_append, this]; omega
  · have hs : (putRowK encS 2 (Sort.ahead w n) g 0 d).heap.size = w.heap.size := Sort.size_putRow id _ g 0 _
    rw [show sortWorldK encS 2 w g 0 n d os = grow (putRowK encS 2 (Sort.ahead w n) g 0 d) os from rfl, heap_grow _ _ _ (by omega)]
    show ((mapBlock (Sort.ahead w n) g _).heap)[k]? = _
    unfold mapBlock
    show (w.heap.modify g _)[k]? = _
    rw [Array.getElem?_modify, if_neg (by rintro rfl; exact hne rfl)]
theorem holds_own {w : World} {base g c : Nat} {d : List S42} (h : w.ownsRow base 42 2 (.slice (some ⟨g, 0, none⟩) d.length c) d.length (flat2 d)) (_hn : 0 < d.length) : HoldsK encS 2 w g 0 d.toArray ∧ g < w.heap.size := by
  rcases h.2 with ⟨hv, _⟩ | ⟨g', cap, cur, hv, hg, hh, h1, h2, h3, h4⟩
  · cases hv
  · cases hv
    refine ⟨fun j hj => ?_, (Array.getElem?_eq_some_iff.1 hh).1⟩
    rw [size_flatK] at hj
    simp only [List.size_toArray] at hj
    rw [get_flatK _ _ _ _ (by simpa using hj), Nat.zero_add]
    refine ⟨cellO hh ?_, frozenO hh⟩
    obtain ⟨i, r, hr, rfl⟩ : ∃ i r, r < 2 ∧ j = i * 2 + r := ⟨j / 2, j % 2, by omega, by omega⟩
    have hi : i < d.length := by omega
    obtain ⟨e0, e1⟩ := flat2_get d i hi
    have hcur : ∀ (q : Nat) (u : Value), (flat2 d)[q]? = some u → cur[q]? = some u := by
      intro q u hq
      rw [← h4, List.getElem?_take] at hq
      split at hq
      · simpa using hq
      · cases hq
    have hget : d.toArray[(i * 2 + r) / 2]! = d[i] := by
      have : (i * 2 + r) / 2 = i := by omega
      rw [this, getElem!_pos d.toArray i (by simpa using hi)]; simp
    rw [hget]
    match r, hr with
    | 0, _ => rw [Nat.add_zero]; rw [hcur _ _ e0]; simp [encS]
    | 1, _ => rw [hcur _ _ e1]; simp [encS, show (i * 2 + 1) % 2 = 1 by omega]
theorem C_of_holds {w : World} {g : Nat} {d : Array S42} (h : HoldsK encS 2 w g 0 d) (hm : d.size ≤ 9223372036854775807) : Kd.C k42 w (some ⟨g, 0, none⟩) d.toList.length d.toList := by
  refine ⟨rfl, by simpa using hm, fun _ => ⟨⟨g, 0, none⟩, rfl, fun j p hj => ?_⟩⟩
  obtain ⟨hl, rfl⟩ := List.getElem?_eq_some_iff.1 hj
  have hl' : j < d.size := by simpa using hl
  refine ⟨encS d.toList[j], rfl, k42_mk w _, fun i u hu => ?_⟩
  have hi : i < 2 := by have := (List.getElem?_eq_some_iff.1 hu).1; simpa [encS] using this
  have hc := (h.cell hl' hi).1
  have e : (⟨g, 0, none⟩ : Addr).add (j * k42.sz + i) = ⟨g, 0 + j * 2 + i, none⟩ := by
    show (⟨g, 0, none⟩ : Addr).add (j * 2 + i) = _
    unfold Addr.add
    split
    · rename_i hz
      rw [show 0 + j * 2 + i = 0 by omega]
    · simp
  rw [e, hc]
  have e2 : d[j]! = d.toList[j] := by rw [getElem!_pos d j hl']; simp
  rw [e2]
  obtain ⟨g1, g2⟩ := List.getElem?_eq_some_iff.1 hu
  rw [getElem!_pos (encS d.toList[j]) i g1, g2]
theorem perm_of {d d' : Array S42} (h : PermIn 0 d.size d d') : d'.toList.Perm d.toList := by
  obtain ⟨h1, _, h3⟩ := h
  have e1 : d'.extract 0 d.size = d' := by rw [← h1]; simp
  rw [e1] at h3
  simpa using h3
theorem sorted_of {d : Array S42} {n : Nat} (hn : n = d.size) (h : SortedIn (ltOf cfS) 0 n d) : d.toList.Pairwise (fun a b => a.f0 ≤ b.f0) := by
  subst hn
  rw [List.pairwise_iff_getElem]
  intro i j hi hj hij
  have hi' : i < d.size := by simpa using hi
  have hj' : j < d.size := by simpa using hj
  have := h i j (Nat.zero_le _) hij hj'
  rw [ltS, getElem!_pos d i hi', getElem!_pos d j hj'] at this
  simp at this ⊢
  exact this
theorem sort45 {d : List S42} {w : World} {base g c : Nat} (own : w.ownsRow base 42 2 (.slice (some ⟨g, 0, none⟩) d.length c) d.length (flat2 d)) (hn : 0 < d.length) (hm : d.length < 8796093022208) :
    Calls Tryd.prog 45 #[.slice (some ⟨g, 0, none⟩) d.length c, .func (.func 46) #[] #[]] w fun e w' => e = .returned (.tuple #[]) ∧ ∃ d' : List S42, d'.Perm d ∧ d'.Pairwise (fun a b => a.f0 ≤ b.f0) ∧ Kd.C k42 w' (some ⟨g, 0, none⟩) d'.length d' ∧ w.grownBy w' (some g) := by
  have eg : ∀ args w, (callFunc 46 args).run Tryd.prog w = .ok (.enter 46 args) w := enters_of Tryd.func46 (by kernel_rfl) rfl
  obtain ⟨hH, hlt⟩ := holds_own own hn
  have hcon := AnyQ.slices_SortFunc Tryd.sortSpan 2 Tryd.isAgg42 Tryd.sizeOf42 encS encS_len encS_one cfS swoS 46 #[] g 0 c d.toArray w eg (fun _ _ _ _ x y => cl46 x y _) hH hlt (by simp; omega)
  change Calls Tryd.prog 45 _ _ _ at hcon
  rw [show d.toArray.size = d.length by simp] at hcon
  refine hcon.mono ?_
  rintro e w' ⟨he, d', n, os, hp, hs, rfl⟩
  have hsz : d'.size = d.length := by have := hp.1; simpa using this
  have hH' : HoldsK encS 2 (sortWorldK encS 2 w g 0 n d' os) g 0 d' := Go.Proofs.holdsK_sortWorldK_c encS 2 w g 0 d.toArray d' n os hH hlt (by simpa using hsz)
  refine ⟨he, d'.toList, ?_, sorted_of hsz.symm hs, C_of_holds hH' (by omega), sorted_grown w g n d' os⟩
  have := perm_of (d := d.toArray) (by simpa using hp)
  simpa using this
end Go.Proofs.YtbgojgoejlhgeaaDoor.Pr
