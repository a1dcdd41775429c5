/- What the calls on a table do: All. Conditions: the table lies in memory. -/
import Derived.Test.YtiagnkmiibaacaaOf
namespace Go.Proofs.Ytiagnkmiibaacaa
open Go.RowKit Go.Maps Go.ChangeMaps Go.WideMaps Go.Sort
theorem info30 : (Try.prog.info? 30).map (fun i => (i.zero, i.size, i.bytes)) = some (some (.agg (cF z14)), 14, 136) := by kernel_rfl
def flatF (l : List Fl) : List Value := l.flatMap fun f => (cF f).toList
theorem flatF_len (l : List Fl) : (flatF l).length = l.length * 14 := by
  induction l with
  | nil => rfl
  | cons f r ih =>
    show ((cF f).toList ++ flatF r).length = _
    rw [List.length_append, ih]; simp; omega
theorem flatF_get : ∀ (l : List Fl) (i : Nat) (hi : i < l.length) (j : Nat), j < 14 → (flatF l)[i * 14 + j]? = (cF l[i])[j]? := by
  intro l
  induction l with
  | nil => intro i hi; simp at hi
  | cons f r ih =>
    intro i hi j hj
    show ((cF f).toList ++ flatF r)[i * 14 + j]? = _
    cases i with
    | zero => rw [Nat.zero_mul, Nat.zero_add, List.getElem?_append_left (by simpa using hj)]; simp
    | succ i =>
      have hl : ((cF f).toList).length = 14 := rfl
      rw [List.getElem?_append_right (by rw [hl]; omega), hl, show (i + 1) * 14 + j - 14 = i * 14 + j by omega, ih i (by simpa using hi) j hj]
      rfl
theorem flatF_snoc (l : List Fl) (f : Fl) : flatF (l ++ [f]) = flatF l ++ (cF f).toList := by unfold flatF; simp
/-- flights, as they lie in memory, to be read -/
def FR (w : World) (A : Option Addr) (l : List Fl) : Prop := ∀ i (h : i < l.length), ∃ g o, A = some ⟨g, o, none⟩ ∧ g < w.heap.size ∧ ∀ j v, j < 14 → (cF l[i])[j]? = some v → w.cell? ⟨g, o + (i * 14 + j), none⟩ = some v
theorem FR.below {w w' : World} {A : Option Addr} {l : List Fl} (h : FR w A l) (b : Below w.heap.size w w') : FR w' A l := fun i hi => by
  obtain ⟨g, o, e, hg, hc⟩ := h i hi
  exact ⟨g, o, e, Nat.lt_of_lt_of_le hg b.size, fun j v hj hv => (b.cell hg).trans (hc j v hj hv)⟩
theorem FR.of_row {w : World} {base : Nat} {ty : TypeId} {A : Option Addr} {c : Nat} {l : List Fl} (h : w.ownsRow base ty 14 (.slice A l.length c) l.length (flatF l)) : FR w A l := fun i hi => by
  obtain ⟨g, cap, hv, _, hlt⟩ := h.form (by omega)
  have hA : A = some ⟨g, 0, none⟩ := by injection hv
  subst hA
  refine ⟨g, 0, rfl, hlt, fun j v hj hv => ?_⟩
  have := h.cells (g := g) rfl (i * 14 + j) v (by rw [flatF_get l i hi j hj]; exact hv)
  simpa [Addr.add_mid] using this
section
variable {F : Nat → Prop} {p m : Nat} {last : Int} {L : List FT} {N : Nat} {K : KM} {V : Int → Value} {w w' : World} {n : Int}
abbrev fls (L : List FT) : List Fl := L.map FT.f
theorem cell_new14 (w : World) (f : Fl) (ty : TypeId) : ∀ j u, (cF f).toList[j]? = some u → (w.alloc (.cells (cF f) ty)).cell? ((⟨w.heap.size, 0, none⟩ : Addr).add j) = some u := by
  intro j u hj
  rw [Addr.add_mid, Nat.zero_add]
  exact cell_of (obj_new w _) (by simpa using hj)
theorem one_new14 (f : Fl) : ∀ u ∈ (cF f).toList, u.oneCell' = true := by
  intro u hu
  simp at hu
  rcases hu with rfl | rfl | rfl | rfl | rfl | rfl | rfl | rfl | rfl | rfl | rfl | rfl | rfl | rfl <;> rfl
set_option maxRecDepth 100000 in
set_option maxHeartbeats 2000000 in
theorem all_any (h : FS F p m last L N K V w) (hN : N < 1000000) (hlast : last < 1000000) (hL : L.length < 1000000) :
    Calls Try.prog 13 #[.pointer (some ⟨p, 0, none⟩)] w fun e w' => ∃ A c, e = .returned (.slice A (fls L).length c) ∧ FR w' A (fls L) ∧ Below w.heap.size w w' := by
  have HH := Lib.hid h
  have HLa := Lib.hid hlast
  have HLn := Lib.hid hL
  clear h hlast hL
  obtain ⟨i0, hi0, hz0, hz1, hz2⟩ := info_parts info30
  go_enter Try.func13, Try.ntmps13
  go_wp2_with (go_at_call 42; refine (numbers_any HH.out hN).mono ?_; rintro e w2 ⟨A, c, rfl, hA, hb⟩)
  have HW := Lib.hid (HH.out.below hb)
  have HA := Lib.hid hA
  have HB := Lib.hid hb
  clear hA hb HH
  go_loopw [3, 9] (fun v i wr => ∃ k : Nat, k ≤ L.length ∧ i = .int .i64 k ∧ Hid (wr.ownsRow w2.heap.size 30 14 v k (flatF (fls (L.take k)))) ∧ Hid (Below w2.heap.size w2 wr)) (fun _ i _ => L.length - (intOf i).toNat)
  case atStart => exact ⟨0, Nat.zero_le _, rfl, ⟨by simp [flatF], .inl ⟨rfl, rfl⟩⟩, Below.refl _ _⟩
  case round =>
    obtain ⟨k, hk, rfl, HO, HR⟩ := hrel
    by_cases hlt : k < L.length
    · have hk9 : k < 1000000 := by have := HLn.out; omega
      have HS := Lib.hid (HW.out.below HR.out)
      have hmem : L[k] ∈ L := List.getElem_mem hlt
      obtain ⟨b, hkb, hit, _, _⟩ := HS.out.it L[k] hmem
      have hlk := HS.out.look1 (wf_id HS.out HLa.out hmem)
      rw [hkb] at hlk
      simp only [pv] at hlk
      obtain ⟨g, o, hAe, hg, hcell⟩ := HA.out k (by simpa using hlt)
      subst hAe
      have hid : (ids L)[k]'(by simpa using hlt) = L[k].id := by simp
      rw [hid] at hcell
      have hcell2 : wr.cell? ⟨g, o + k, none⟩ = some (.int .i64 L[k].id) := (HR.out.cell hg).trans hcell
      have hc1 := HS.out.c1
      have hT : Hid (flatF (fls (L.take (k + 1))) = flatF (fls (L.take k)) ++ (cF L[k].f).toList) := by
        show _ = _
        rw [take_snocF L k hlt, show fls (L.take k ++ [L[k]]) = fls (L.take k) ++ [L[k].f] from by show List.map FT.f _ = _; rw [List.map_append]; rfl, flatF_snoc]
      obtain ⟨d0, d1, d2, d3, d4, d5, d6, d7, d8, d9, d10, d11, d12, d13⟩ := cells14 hit.blk
      clear hcell hid hg hit hkb
      have hidf : L[k].id = L[k].f.id := rfl
      rw [hidf] at hlk hcell2
      clear hidf hmem
      generalize flatF (fls (L.take k)) = S at HO hT
      generalize L[k].f = fk at hT hlk hcell2 d0 d1 d2 d3 d4 d5 d6 d7 d8 d9 d10 d11 d12 d13
      go_wp2_with (at_builtin; refine wpList_append_own _ rfl _ _ 38 rfl w2.heap.size 30 i0 (.agg (cF z14)) 14 136 Try.underlying38 hi0 hz0 hz1 hz2 rfl (by decide) _ _ _ rfl (HO.out.alloc _) ⟨wr.heap.size, 0, none⟩ 1 1 (cF fk).toList rfl rfl (cell_new14 _ _ _) (one_new14 _) ?a3 ?a4 ?a5 ?_)
      case a3 => unfold maxLen; omega
      case a4 => omega
      case a5 => have := HR.out.size; simp; omega
      intro v' w4 hown4 hgrow4 _
      have HO4 := Lib.hid hown4
      have HB4 : Hid (Below w2.heap.size w2 w4) := (HR.out.alloc HR.out.size _).grown hgrow4 (by have := HR.out.size; simp; omega) (fun k hk => by
        rcases HO.out.2 with ⟨hv, _⟩ | ⟨gg, cap, cur, hv, hbg, _⟩
        · rw [hv] at hk; simp [Value.ownBlock] at hk
        · rw [hv] at hk; simp [Value.ownBlock] at hk; omega)
      clear hown4 hgrow4 hlk hcell2 hc1 d0 d1 d2 d3 d4 d5 d6 d7 d8 d9 d10 d11 d12 d13
      go_wp2
      go_roundw
      case rel =>
        refine ⟨k + 1, by omega, by go_num, ?_, HB4⟩
        rw [hT.out]
        exact HO4
      case measure => simp [intOf]; omega
    · obtain rfl : k = L.length := by omega
      have hO := HO.out
      rw [List.take_length] at hO
      obtain ⟨A6, c6, hv6⟩ := row_slice hO
      subst hv6
      have hll : L.length = (fls L).length := by simp
      rw [hll] at hO
      have HO2 := Lib.hid (FR.of_row hO)
      have HLL := Lib.hid hll
      clear hO HO hll
      go_wp2
      go_ret
      exact ⟨A6, c6, by rw [← HLL.out]; rfl, HO2.out, HB.out.trans (HR.out.mono HB.out.size)⟩
end
end Go.Proofs.Ytiagnkmiibaacaa
