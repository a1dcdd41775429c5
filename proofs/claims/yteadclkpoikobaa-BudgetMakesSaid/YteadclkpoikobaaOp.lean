/- The arguments of the statements, as they are read: a slice of acts, a room, an act. Conditions: those of each theorem. -/
import Derived.Test.YteadclkpoikobaaL1
import Derived.ProofKit
import Derived.OpenShut
import Derived.ShutString
import Derived.Deep.Slices
import Derived.Deep.Strs
import Derived.Lib.SmallJoins
namespace Go.Proofs.Yteadclkpoikobaa
open Go.ChangeShapes Go.WideShapes Go.ChangeAt Go.RowKit
open Go.ChangeMaps (open_string shut_string)

theorem laidOut : laidOutB Try.prog = true := by kernel_rfl
theorem cells26 : Try.prog.cellsOf 26 = 3 := by kernel_rfl
theorem cells23 : Try.prog.cellsOf 23 = 2 := by kernel_rfl
theorem cells9 : Try.prog.cellsOf 9 = 1 := by kernel_rfl
theorem cells2 : Try.prog.cellsOf 2 = 1 := by kernel_rfl
theorem cells4 : Try.prog.cellsOf 4 = 1 := by kernel_rfl

theorem flatA_cells {A : List Ac} {W : World} {g o : Nat} (h : ∀ i (hi : i < A.length), W.cell? ⟨g, o + i * 3, none⟩ = some (.string A[i].1) ∧ W.cell? ⟨g, o + (i * 3 + 1), none⟩ = some (.int .i64 A[i].2.1) ∧ W.cell? ⟨g, o + (i * 3 + 2), none⟩ = some (.bool A[i].2.2)) :
    ∀ (j : Nat) (u : Value), (flatA A)[j]? = some u → W.cell? ⟨g, o + j, none⟩ = some u := by
  intro j u hj
  have hlt : j < A.length * 3 := by
    rw [← flatA_length]
    exact (List.getElem?_eq_some_iff.1 hj).1
  obtain ⟨i, r, hr, rfl⟩ : ∃ i r, r < 3 ∧ j = i * 3 + r := ⟨j / 3, j % 3, by omega, by omega⟩
  have hi : i < A.length := by omega
  obtain ⟨h0, h1, h2⟩ := h i hi
  obtain ⟨e0, e1, e2⟩ := flatA_get A i hi
  match r, hr with
  | 0, _ => rw [Nat.add_zero, e0] at hj; cases hj; exact h0
  | 1, _ => rw [e1] at hj; cases hj; exact h1
  | 2, _ => rw [e2] at hj; cases hj; exact h2

theorem open_acts {H : Type} {enc : TypeId × Value → H} {W : World} {fuel : Nat} {a0 : Option Addr} {len cap : Nat} {x : DataW H × List MemPlace} (h : DataW.trod enc Try.prog W 0 (fun _ => true) true fuel 24 [.slice a0 len cap] = some x) :
    ∃ A : List Ac, A.length = len ∧ Ag W a0 A.length 3 (flatA A) := by
  rcases Deep.open_slice Try.underlying24 h with ⟨hc, _⟩ | ⟨a, len', cap', m, n, D, Pl, hc, _, hl, hm, hmm, _, hel⟩
  · simp at hc
    obtain ⟨rfl, rfl, rfl⟩ := hc
    exact ⟨[], rfl, rfl, by unfold maxLen; simp, fun h => by simp at h⟩
  · simp at hc
    obtain ⟨rfl, rfl, rfl⟩ := hc
    have hmc : m = cap := by simpa using hmm
    have key : ∀ i, i < len → ∃ x : Ac, W.cell? (a.add (i * 3)) = some (.string x.1) ∧ W.cell? (a.add (i * 3 + 1)) = some (.int .i64 x.2.1) ∧ W.cell? (a.add (i * 3 + 2)) = some (.bool x.2.2) := by
      intro i hi
      obtain ⟨cs', hcs, ht⟩ := hel i (by omega)
      rw [cells26] at hcs
      obtain ⟨y0, y1, y2, n', _, hlen, t0, t1, t2⟩ := Deep.trod_struct3 Try.underlying26 ht
      rw [cells26] at hlen
      match cs', hlen with
      | [c0, c1, c2], _ =>
        simp [cells9, cells2, cells4] at t0 t1 t2
        obtain ⟨s, e0, _, _⟩ := DataW.trod_string Try.underlying9 t0
        obtain ⟨z, e1, _, _⟩ := DataW.trod_int Try.underlying2 t1
        obtain ⟨b, e2, _⟩ := DataW.trod_bool Try.underlying4 t2
        simp at e0 e1 e2
        subst e0 e1 e2
        obtain ⟨_, _, hg⟩ := World.cells?_some hcs
        have h0 := hg 0 (by omega)
        have h1 := hg 1 (by omega)
        have h2 := hg 2 (by omega)
        rw [Deep.add_add] at h0 h1 h2
        exact ⟨(s, z, b), by simpa using h0, by simpa using h1, by simpa using h2⟩
    have hin : Inhabited Ac := ⟨(ByteArray.empty, 0, false)⟩
    obtain ⟨f, hf⟩ := Deep.choose_lt key
    refine ⟨(List.range len).map f, by simp, by rw [flatA_length], by simp; omega, fun hn => ?_⟩
    have hn' : 0 < len := by simpa using hn
    have hsp : a.spot = none := by
      have h0 := (hf 0 hn').1
      have e : a.add (0 * 3) = a := by simp [Addr.add]
      rw [e] at h0
      unfold World.cell? at h0
      cases hs : a.spot with
      | none => rfl
      | some z => rw [hs] at h0; simp at h0; split at h0 <;> simp at h0
    have ha : ∀ k, a.add k = ⟨a.block, a.off + k, none⟩ := fun k => by
      unfold Addr.add; split
      · rename_i h; rw [h, ← hsp]; rfl
      · rfl
    refine ⟨a.block, a.off, by cases a; simp at hsp; simp [hsp], ?_, flatA_cells fun i hi => ?_⟩
    · have h0 := (hf 0 hn').1
      rw [ha] at h0
      exact World.block_lt_of_cell? W ⟨a.block, a.off + 0 * 3, none⟩ h0
    · have hi' : i < len := by simpa using hi
      obtain ⟨h0, h1, h2⟩ := hf i hi'
      rw [ha] at h0 h1 h2
      simp only [List.getElem_map, List.getElem_range]
      exact ⟨h0, h1, h2⟩
end Go.Proofs.Yteadclkpoikobaa
