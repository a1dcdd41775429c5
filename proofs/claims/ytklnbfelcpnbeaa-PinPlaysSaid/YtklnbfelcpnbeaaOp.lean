/- The arguments of the statements, as they are read: slices of acts, of numbers. Conditions: those of each theorem. -/
import Derived.Test.YtklnbfelcpnbeaaAp
import Derived.ProofKit
import Derived.OpenShut
import Derived.ShutString
import Derived.Deep.Slices
import Derived.Deep.Strs
import Derived.Lib.SmallJoins
namespace Go.Proofs.Ytklnbfelcpnbeaa
open Go.ChangeShapes Go.WideShapes Go.ChangeAt Go.RowKit

theorem cells35 : Try.prog.cellsOf 35 = 3 := by kernel_rfl
theorem cells5 : Try.prog.cellsOf 5 = 1 := by kernel_rfl
theorem cells2 : Try.prog.cellsOf 2 = 1 := by kernel_rfl

theorem flatA_cells {A : List Ac} {W : World} {g o : Nat} (h : ∀ i (hi : i < A.length), W.cell? ⟨g, o + i * 3, none⟩ = some (.int .u8 A[i].1) ∧ W.cell? ⟨g, o + (i * 3 + 1), none⟩ = some (.int .i64 A[i].2.1) ∧ W.cell? ⟨g, o + (i * 3 + 2), none⟩ = some (.int .u8 A[i].2.2)) :
    ∀ (j : Nat) (u : Value), (flatA A)[j]? = some u → W.cell? ⟨g, o + j, none⟩ = some u := by
  intro j u hj
  have hlt : j < A.length * 3 := by
    rw [← flatA_length]
    exact (List.getElem?_eq_some_iff.1 hj).1
  obtain ⟨i, r, hr, rfl⟩ : ∃ i r, r < 3 ∧ j = i * 3 + r := ⟨j / 3, j % 3, by omega, by omega⟩
  have hi : i < A.length := by omega
  obtain ⟨h0, h1, h2⟩ := h i hi
  obtain ⟨e0, e1, e2⟩ := flatA_get A i hi
  match r, hr with
  | 0, _ => rw [Nat.add_zero, e0] at hj; cases hj; exact h0
  | 1, _ => rw [e1] at hj; cases hj; exact h1
  | 2, _ => rw [e2] at hj; cases hj; exact h2

theorem spot_none {W : World} {a : Addr} {v : Value} (h : W.cell? a = some v) : a.spot = none := by
  unfold World.cell? at h
  cases hs : a.spot with
  | none => rfl
  | some z => rw [hs] at h; simp at h; split at h <;> simp at h
theorem add_flat {a : Addr} (h : a.spot = none) (k : Nat) : a.add k = ⟨a.block, a.off + k, none⟩ := by
  unfold Addr.add; split
  · rename_i e; rw [e, ← h]; rfl
  · rfl
theorem add_zero (a : Addr) : a.add 0 = a := by simp [Addr.add]

set_option maxRecDepth 100000 in
theorem open_acts {H : Type} {enc : TypeId × Value → H} {W : World} {fuel : Nat} {a0 : Option Addr} {len cap : Nat} {x : DataW H × List MemPlace} (h : DataW.trod enc Try.prog W 0 (fun _ => true) true fuel 33 [.slice a0 len cap] = some x) :
    ∃ A : List Ac, A.length = len ∧ Ag W a0 A.length 3 (flatA A) ∧ okA A := by
  rcases Deep.open_slice Try.underlying33 h with ⟨hc, _⟩ | ⟨a, len', cap', m, n, D, Pl, hc, _, hl, hm, hmm, _, hel⟩
  · simp at hc
    obtain ⟨rfl, rfl, rfl⟩ := hc
    exact ⟨[], rfl, ⟨rfl, by unfold maxLen; simp, fun h => by simp at h⟩, fun x hx => by cases hx⟩
  · simp at hc
    obtain ⟨rfl, rfl, rfl⟩ := hc
    have hmc : m = cap := by simpa using hmm
    have key : ∀ i, i < len → ∃ x : Ac, (W.cell? (a.add (i * 3)) = some (.int .u8 x.1) ∧ W.cell? (a.add (i * 3 + 1)) = some (.int .i64 x.2.1) ∧ W.cell? (a.add (i * 3 + 2)) = some (.int .u8 x.2.2)) ∧ ((0 ≤ x.1 ∧ x.1 ≤ 255) ∧ (Lit.int .i64 x.2.1).wf = true ∧ (0 ≤ x.2.2 ∧ x.2.2 ≤ 255)) := by
      intro i hi
      obtain ⟨cs', hcs, ht⟩ := hel i (by omega)
      rw [cells35] at hcs
      obtain ⟨y0, y1, y2, n', _, hlen, t0, t1, t2⟩ := Deep.trod_struct3 Try.underlying35 ht
      rw [cells35] at hlen
      match cs', hlen with
      | [c0, c1, c2], _ =>
        simp [cells5, cells2] at t0 t1 t2
        obtain ⟨s, e0, _, w0⟩ := DataW.trod_int Try.underlying5 t0
        obtain ⟨z, e1, _, w1⟩ := DataW.trod_int Try.underlying2 t1
        obtain ⟨b, e2, _, w2⟩ := DataW.trod_int Try.underlying5 t2
        simp at e0 e1 e2
        subst e0 e1 e2
        obtain ⟨_, _, hg⟩ := World.cells?_some hcs
        have h0 := hg 0 (by omega)
        have h1 := hg 1 (by omega)
        have h2 := hg 2 (by omega)
        rw [Deep.add_add] at h0 h1 h2
        exact ⟨(s, z, b), ⟨by simpa using h0, by simpa using h1, by simpa using h2⟩, wf_u8 w0, w1, wf_u8 w2⟩
    have hin : Inhabited Ac := ⟨(0, 0, 0)⟩
    obtain ⟨f, hf⟩ := Deep.choose_lt key
    refine ⟨(List.range len).map f, by simp, ⟨by rw [flatA_length], by simp; omega, fun hn => ?_⟩, fun x hx => ?_⟩
    · have hn' : 0 < len := by simpa using hn
      have h0 := (hf 0 hn').1.1
      have hsp : a.spot = none := by
        have e : a.add (0 * 3) = a := by rw [Nat.zero_mul]; exact add_zero a
        rw [e] at h0
        exact spot_none h0
      refine ⟨a.block, a.off, by cases a; simp at hsp; simp [hsp], ?_, flatA_cells fun i hi => ?_⟩
      · rw [add_flat hsp] at h0
        exact World.block_lt_of_cell? W ⟨a.block, a.off + 0 * 3, none⟩ h0
      · have hi' : i < len := by simpa using hi
        obtain ⟨h0, h1, h2⟩ := (hf i hi').1
        rw [add_flat hsp] at h0 h1 h2
        simp only [List.getElem_map, List.getElem_range]
        exact ⟨h0, h1, h2⟩
    · obtain ⟨i, hi, rfl⟩ := List.mem_map.1 hx
      exact (hf i (List.mem_range.1 hi)).2
end Go.Proofs.Ytklnbfelcpnbeaa
