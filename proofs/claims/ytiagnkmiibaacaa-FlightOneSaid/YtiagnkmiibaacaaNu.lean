/- What the calls on a table do: numbers, Join, Quit, Who. Conditions: the table lies in memory. -/
import Derived.Test.YtiagnkmiibaacaaC3
import Derived.Test.YtiagnkmiibaacaaSh
import Derived.Test.YtiagnkmiibaacaaIt
import Derived.Deep.AppendLies
namespace Go.Proofs.Ytiagnkmiibaacaa
open Go.RowKit Go.Maps Go.ChangeMaps Go.WideMaps Go.Sort
section
variable {F : Nat → Prop} {p m : Nat} {last : Int} {L : List FT} {N : Nat} {K : KM} {V : Int → Value} {w : World} {n : Int}
abbrev ids (L : List FT) : List Int := L.map FT.id
theorem K_some (h : FS F p m last L N K V w) (n : Int) : (K n).isSome = decide (n ∈ ids L) := by
  by_cases hn : n ∈ ids L
  · obtain ⟨t, ht, e⟩ := List.mem_map.1 hn
    obtain ⟨b, hb, _⟩ := h.it t ht
    rw [e] at hb
    rw [hb]; simp [hn]
  · have : K n = none := h.no n fun t ht e => hn (List.mem_map.2 ⟨t, ht, e⟩)
    rw [this]; simp [hn]
theorem intKeys_nodup {P : Program} {w : World} {R : Value → Option (DataW Unit × List MemPlace)} {b n : Nat} {D : DataW Unit} (h : w.ownsMap P 2 R b n D) (K : Keyed P 2) (hk : P.underlying 2 = some (.int .i64)) : (intKeys D).Nodup := by
  obtain ⟨es, hD, hes⟩ := h.keysOf
  obtain ⟨es', hD', hp⟩ := h.tidy K
  rw [hD] at hD'
  cases hD'
  subst hD
  refine List.pairwise_map.2 (hp.imp_of_mem fun {p q} hp' hq' hne e => hne ?_)
  obtain ⟨k1, hk1⟩ := hes p hp'
  obtain ⟨k2, hk2⟩ := hes q hq'
  obtain ⟨a, _, ha, _⟩ := Maps.keyOf_int_inv hk hk1
  obtain ⟨b, _, hb, _⟩ := Maps.keyOf_int_inv hk hk2
  rw [ha, hb] at e ⊢
  exact congrArg _ e
theorem mem_intKeys {P : Program} {w : World} {R : Value → Option (DataW Unit × List MemPlace)} {b n : Nat} {D : DataW Unit} (h : w.ownsMap P 2 R b n D) (hk : P.underlying 2 = some (.int .i64)) (x : Int) : x ∈ intKeys D ↔ Maps.has D (ik x) = true := by
  obtain ⟨es, rfl, hes⟩ := h.keysOf
  rw [has_eq, List.any_eq_true]
  constructor
  · intro hx
    obtain ⟨p, hp, rfl⟩ := List.mem_map.1 hx
    obtain ⟨key, hkey⟩ := hes p hp
    obtain ⟨y, _, hy, _⟩ := Maps.keyOf_int_inv hk hkey
    exact ⟨p, hp, by rw [hy]; simp [Go.intOf, Lit.sameKey]⟩
  · rintro ⟨p, hp, hs⟩
    obtain ⟨key, hkey⟩ := hes p hp
    obtain ⟨y, _, hy, _⟩ := Maps.keyOf_int_inv hk hkey
    refine List.mem_map.2 ⟨p, hp, ?_⟩
    rw [hy] at hs ⊢
    simpa [Go.intOf, Lit.sameKey] using hs
end
theorem up_uniq : ∀ {l m : List Int}, l.Pairwise (· < ·) → m.Pairwise (· < ·) → (∀ x, x ∈ l ↔ x ∈ m) → l = m := by
  intro l
  induction l with
  | nil =>
    intro m _ _ h
    cases m with
    | nil => rfl
    | cons a r => exact absurd ((h a).2 (by simp)) (by simp)
  | cons a r ih =>
    intro m hl hm h
    cases m with
    | nil => exact absurd ((h a).1 (by simp)) (by simp)
    | cons b q =>
      rw [List.pairwise_cons] at hl hm
      have e : a = b := by
        rcases List.mem_cons.1 ((h a).1 (by simp)) with h1 | h1
        · exact h1
        · rcases List.mem_cons.1 ((h b).2 (by simp)) with h2 | h2
          · exact h2.symm
          · have := hl.1 b h2; have := hm.1 a h1; omega
      subst e
      congr 1
      refine ih hl.2 hm.2 fun x => ⟨fun hx => ?_, fun hx => ?_⟩
      · rcases List.mem_cons.1 ((h x).1 (by simp [hx])) with h1 | h1
        · have := hl.1 x hx; omega
        · exact h1
      · rcases List.mem_cons.1 ((h x).2 (by simp [hx])) with h1 | h1
        · have := hm.1 x hx; omega
        · exact h1
/-- numbers, as they lie in memory, to be read -/
def IS (w : World) (A : Option Addr) (l : List Int) : Prop := ∀ i (h : i < l.length), ∃ g o, A = some ⟨g, o, none⟩ ∧ g < w.heap.size ∧ w.cell? ⟨g, o + i, none⟩ = some (.int .i64 l[i])
theorem IS.nil (w : World) (A : Option Addr) : IS w A [] := fun i h => by simp at h
theorem IS.below {w w' : World} {A : Option Addr} {l : List Int} (h : IS w A l) (b : Below w.heap.size w w') : IS w' A l := fun i hi => by
  obtain ⟨g, o, e, hg, hc⟩ := h i hi
  exact ⟨g, o, e, Nat.lt_of_lt_of_le hg b.size, (b.cell hg).trans hc⟩
theorem IS.of_row {w : World} {base : Nat} {ty : TypeId} {A : Option Addr} {c : Nat} {l : List Int} (h : w.ownsRow base ty 1 (.slice A l.length c) l.length (ints l)) : IS w A l := fun i hi => by
  obtain ⟨g, cap, hv, _, hlt⟩ := h.form (by omega)
  have hA : A = some ⟨g, 0, none⟩ := by injection hv
  subst hA
  have := h.cells (g := g) rfl i (.int .i64 l[i]) (by simp [hi])
  exact ⟨g, 0, rfl, hlt, by simpa [Addr.add_mid] using this⟩
theorem row_slice {w : World} {base : Nat} {ty : TypeId} {size n : Nat} {v : Value} {xs : List Value} (h : w.ownsRow base ty size v n xs) : ∃ A c, v = .slice A n c := by
  rcases h.2 with ⟨rfl, hn⟩ | ⟨g, cap, cur, rfl, _⟩
  · rw [hn]; exact ⟨none, 0, rfl⟩
  · exact ⟨_, _, rfl⟩
section
variable {F : Nat → Prop} {p m : Nat} {last : Int} {L : List FT} {N : Nat} {K : KM} {V : Int → Value} {w : World} {n : Int}
theorem ids_up (h : FS F p m last L N K V w) : (ids L).Pairwise (· < ·) := List.pairwise_map.2 h.up
theorem numbers_any (h : FS F p m last L N K V w) (hN : N < 1000000) :
    Calls Try.prog 42 #[.pointer (some ⟨p, 0, none⟩)] w fun e w' => ∃ A c, e = .returned (.slice A (ids L).length c) ∧ IS w' A (ids L) ∧ Below w.heap.size w w' := by
  obtain ⟨D, hm, hr⟩ := h.map
  have hsz := hm.size_le
  have cS := Try.sortedCall m N D Rk w hm (by unfold maxLen; omega) (by omega)
  have c1 := h.c1
  have HK : Hid (∀ x, x ∈ intKeys D ↔ x ∈ ids L) := fun x => by
    rw [mem_intKeys hm Try.underlying2, hr.has, K_some h]; simp
  have HN := Lib.hid (intKeys_nodup hm law2 Try.underlying2)
  have HU := Lib.hid (ids_up h)
  clear hm hr h
  refine (callsIn_wide (n := 6)).1 ?_
  have hfK : Fence.wide.fn 62 := trivial
  have hfS : Fence.wide.fn 61 := trivial
  refine callsIn_of_wp Try.func42 rfl trivial ?_ rfl
  simp only [Try.ntmps42, List.size_toArray, List.length_cons, List.length_nil, Nat.reduceAdd, Nat.reduceSub, Array.replicate_succ, Array.replicate_zero, List.push_toArray, List.append_toArray, List.nil_append, List.cons_append]
  gi_wp2_with (first
    | (gi_at_call 62; refine (Try.keysCall _ _).mono ?_; rintro e w' ⟨rfl, rfl⟩)
    | (gi_at_call 61; refine cS.mono ?_; rintro e w' ⟨v, ss, rfl, hS, hrow, hnil, hb⟩))
  go_ret
  have e1 : ss.mergeSort (fun x y => decide (x ≤ y)) = ids L := by
    have hp := List.mergeSort_perm ss (fun x y : Int => decide (x ≤ y))
    have hs := List.pairwise_mergeSort (le := fun x y : Int => decide (x ≤ y)) (by intro a b c h1 h2; simp at *; omega) (by intro a b; simp; omega) ss
    have hn : (ss.mergeSort (fun x y => decide (x ≤ y))).Nodup := hp.nodup_iff.2 (hS.nodup_iff.2 HN.out)
    refine up_uniq ((hs.and hn).imp fun {a b} hab => ?_) HU.out fun x => ?_
    · have h1 : a ≤ b := by simpa using hab.1
      have := hab.2
      omega
    · rw [hp.mem_iff, hS.mem_iff, HK.out]
  have e2 : ss.length = (ids L).length := by rw [← e1]; simp
  rw [e1, e2] at hrow
  obtain ⟨A, c, rfl⟩ := row_slice hrow
  exact ⟨A, c, rfl, IS.of_row hrow, ((Below.refl _ w).alloc (Nat.le_refl _) _).trans (hb.mono (by simp))⟩
end
end Go.Proofs.Ytiagnkmiibaacaa
