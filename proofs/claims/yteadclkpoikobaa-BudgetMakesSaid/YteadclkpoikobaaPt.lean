/- Who has bytes: sorted names, plain laws. Conditions: none. -/
import Derived.Test.YteadclkpoikobaaB1
import Derived.Sort.KeysCollected
namespace Go.Proofs.Yteadclkpoikobaa
open Go.RowKit Go.Maps Go.ChangeMaps Go.WideMaps Go.Sort

/-- T is just those that have bytes, sorted, each once -/
structure IsTen (T : List ByteArray) (L : List Ln) : Prop where
  nodup : T.Nodup
  sorted : T.Pairwise (fun a b => a.data.toList ≤ b.data.toList)
  mem : ∀ k, k ∈ T ↔ ofL L k ≠ 0

theorem ba_inj {a b : ByteArray} (h : a.data.toList = b.data.toList) : a = b := by
  rw [Array.toList_inj] at h; cases a; cases b; simp_all
theorem IsTen.unique {T T' : List ByteArray} {L : List Ln} (h : IsTen T L) (h' : IsTen T' L) : T = T' := by
  have hp : T.Perm T' := (List.perm_ext_iff_of_nodup h.nodup h'.nodup).2 fun k => by rw [h.mem, h'.mem]
  exact List.Perm.eq_of_pairwise (fun a b _ _ h1 h2 => ba_inj (List.le_antisymm h1 h2)) h.sorted h'.sorted hp

/-- the sum over those that have bytes -/
def sumT (L : List Ln) : List ByteArray → Int
  | [] => 0
  | t :: r => ofL L t + sumT L r
theorem sumT_perm {L : List Ln} {T T' : List ByteArray} (h : T.Perm T') : sumT L T = sumT L T' := by
  induction h with
  | nil => rfl
  | cons x _ ih => simp only [sumT, ih]
  | swap x y l => simp only [sumT]; omega
  | trans _ _ ih1 ih2 => exact ih1.trans ih2
theorem sumT_names (L M : List Ln) (h : ∀ x ∈ M, ofL L x.1 = x.2) : sumT L (M.map (·.1)) = sumL M := by
  induction M with
  | nil => rfl
  | cons x r ih =>
    have h1 := h x (by simp)
    have h2 := ih fun y hy => h y (by simp [hy])
    simp only [List.map_cons, sumT, sumL, h1, h2]
theorem sumL_filter (L : List Ln) : sumL (L.filter fun x => decide (x.2 ≠ 0)) = sumL L := by
  induction L with
  | nil => rfl
  | cons x r ih =>
    by_cases h : x.2 = 0
    · rw [List.filter_cons_of_neg (by simp [h]), ih]; simp [sumL, h]
    · rw [List.filter_cons_of_pos (by simp [h]), sumL, sumL, ih]
theorem IsTen.sum {T : List ByteArray} {L : List Ln} (h : IsTen T L) (hnd : (L.map (·.1)).Nodup) : sumT L T = sumL L := by
  have hM : ((L.filter fun x => decide (x.2 ≠ 0)).map (·.1)).Nodup := List.Sublist.nodup (List.Sublist.map _ (List.filter_sublist)) hnd
  have hp : T.Perm ((L.filter fun x => decide (x.2 ≠ 0)).map (·.1)) := by
    refine (List.perm_ext_iff_of_nodup h.nodup hM).2 fun k => ?_
    rw [h.mem, List.mem_map]
    constructor
    · intro hk
      by_cases hm : k ∈ L.map (·.1)
      · obtain ⟨x, hx, rfl⟩ := List.mem_map.1 hm
        refine ⟨x, List.mem_filter.2 ⟨hx, ?_⟩, rfl⟩
        rw [ofL_mem hnd hx] at hk
        simpa using hk
      · exact absurd (ofL_none hm) hk
    · rintro ⟨x, hx, rfl⟩
      obtain ⟨hx, h0⟩ := List.mem_filter.1 hx
      rw [ofL_mem hnd hx]
      simpa using h0
  rw [sumT_perm hp, sumT_names L _ (fun x hx => ofL_mem hnd (List.mem_filter.1 hx).1), sumL_filter]

theorem mem_strKeys {P : Program} {w : World} {R : Value → Option (DataW Unit × List MemPlace)} {b n : Nat} {D : DataW Unit} (h : w.ownsMap P 9 R b n D) (hk : P.underlying 9 = some .string) (x : List UInt8) : x ∈ strKeys D ↔ Maps.has D (.string x) = true := by
  obtain ⟨es, rfl, hes⟩ := h.keysOf
  rw [has_eq, List.any_eq_true]
  constructor
  · intro hx
    obtain ⟨p, hp, rfl⟩ := List.mem_map.1 hx
    obtain ⟨key, hkey⟩ := hes p hp
    obtain ⟨y, _, hy, _⟩ := Maps.keyOf_str hk hkey
    exact ⟨p, hp, by rw [hy]; simp [strOf, Lit.sameKey]⟩
  · rintro ⟨p, hp, hs⟩
    obtain ⟨key, hkey⟩ := hes p hp
    obtain ⟨y, _, hy, _⟩ := Maps.keyOf_str hk hkey
    refine List.mem_map.2 ⟨p, hp, ?_⟩
    rw [hy] at hs ⊢
    simpa [strOf, Lit.sameKey] using hs
end Go.Proofs.Yteadclkpoikobaa
