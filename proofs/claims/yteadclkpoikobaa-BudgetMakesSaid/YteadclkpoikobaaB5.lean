/- What the program's call Tenants on a book does: just those that have bytes, sorted. Conditions: the book lies in memory as New laid it. -/
import Derived.Test.YteadclkpoikobaaB4
import Derived.Test.YteadclkpoikobaaPt
import Derived.Test.YteadclkpoikobaaR3
namespace Go.Proofs.Yteadclkpoikobaa
open Go.RowKit Go.Maps Go.ChangeMaps Go.WideMaps Go.Sort

def strs (T : List ByteArray) : List Value := T.map Value.string
theorem strs_get (T : List ByteArray) (k : Nat) (h : k < T.length) : (strs T)[k]? = some (.string T[k]) := by simp [strs, h]
theorem strKeys_nodup {P : Program} {w : World} {R : Value → Option (DataW Unit × List MemPlace)} {b n : Nat} {D : DataW Unit} (h : w.ownsMap P 9 R b n D) (K : Keyed P 9) (hk : P.underlying 9 = some .string) : (strKeys D).Nodup := by
  obtain ⟨es, hD, hes⟩ := h.keysOf
  obtain ⟨es', hD', hp⟩ := h.tidy K
  rw [hD] at hD'
  cases hD'
  subst hD
  refine List.pairwise_map.2 (hp.imp_of_mem fun {p q} hp' hq' hne e => hne ?_)
  obtain ⟨k1, hk1⟩ := hes p hp'
  obtain ⟨k2, hk2⟩ := hes q hq'
  obtain ⟨a, _, ha, _⟩ := Maps.keyOf_str hk hk1
  obtain ⟨b, _, hb, _⟩ := Maps.keyOf_str hk hk2
  rw [ha, hb] at e ⊢
  exact congrArg _ e

theorem ten_of {w : World} {b m n : Nat} {all share sum : Int} {D : DataW Unit} {L : List Ln} (h : BookAt w b m all share sum D n) (r : Rel D L) :
    ∃ T : List ByteArray, T.map (fun t => t.data.toList) = names D ∧ IsTen T L := by
  refine ⟨(names D).map fun s => ⟨s.toArray⟩, ?_, ?_⟩
  · rw [List.map_map]
    exact (List.map_congr_left fun s _ => by simp).trans (List.map_id _)
  · have tr : ∀ a b c : List UInt8, leB a b = true → leB b c = true → leB a c = true := fun a b c h1 h2 => by simp only [leB, decide_eq_true_eq] at *; exact List.le_trans h1 h2
    have to : ∀ a b : List UInt8, (leB a b || leB b a) = true := fun a b => by simp only [leB, Bool.or_eq_true, decide_eq_true_eq]; exact List.le_total a b
    have hp : (names D).Perm (strKeys D) := List.mergeSort_perm _ _
    refine ⟨?_, ?_, fun k => ?_⟩
    · refine List.pairwise_map.2 ((hp.nodup_iff.2 (strKeys_nodup h.map law9 Try.underlying9)).imp fun {a b} hne e => hne ?_)
      have := congrArg (fun t : ByteArray => t.data.toList) e
      simpa using this
    · refine List.pairwise_map.2 ((List.pairwise_mergeSort tr to (strKeys D)).imp fun {a b} hab => ?_)
      simpa [leB] using hab
    · rw [List.mem_map]
      have hm := mem_strKeys h.map Try.underlying9 k.data.toList
      rw [r.has k, decide_eq_true_eq] at hm
      rw [← hm]
      constructor
      · rintro ⟨s, hs, rfl⟩
        simpa using hp.mem_iff.1 hs
      · intro hk
        exact ⟨k.data.toList, hp.mem_iff.2 hk, by cases k; simp⟩

theorem tenants_any {b m n : Nat} {all share : Int} {L : List Ln} {w : World} (h : BookL w b m all share L n) (hn : n < 1000000) :
    Calls Try.prog 15 #[.pointer (some ⟨b, 0, none⟩)] w fun e w' => ∃ T a cap, e = .returned (.slice a T.length cap) ∧ Sl w' 9 a T.length 1 (strs T) ∧ IsTen T L ∧ T.length ≤ n ∧ Ch (fun _ => False) w w' := by
  obtain ⟨⟨D, hB, r⟩, hi⟩ := h
  obtain ⟨T, hT, hI⟩ := ten_of hB r
  have hsz : T.length ≤ n := by
    have e1 : T.length = (names D).length := by rw [← hT]; simp
    have e2 : (names D).length = (strKeys D).length := by unfold names; simp
    have e3 : (strKeys D).length = Maps.size D := by obtain ⟨es, rfl⟩ := hB.map.isMap; simp [strKeys, Maps.size]
    have := hB.map.size_le
    omega
  refine (tenants_D hB hn).mono ?_
  rintro e w' ⟨v, rfl, hrow, hc⟩
  have e1 : (names D).map encStr = strs T := by
    rw [← hT, List.map_map]
    exact List.map_congr_left fun t _ => by cases t; simp [encStr]
  have e2 : (names D).length = T.length := by rw [← hT]; simp
  rw [e1, e2] at hrow
  obtain ⟨a, cap, rfl, hs⟩ := sl_of_row hrow
  exact ⟨T, a, cap, rfl, hs, hI, hsz, hc⟩
end Go.Proofs.Yteadclkpoikobaa
