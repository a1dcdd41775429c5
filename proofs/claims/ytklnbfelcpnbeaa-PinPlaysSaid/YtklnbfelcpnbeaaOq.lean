/- The arguments of the statements, as they are read: slices of numbers. Conditions: those of each theorem. -/
import Derived.Test.YtklnbfelcpnbeaaOp
import Derived.Test.YtklnbfelcpnbeaaSu
namespace Go.Proofs.Ytklnbfelcpnbeaa
open Go.ChangeShapes Go.WideShapes Go.ChangeAt Go.RowKit

set_option maxRecDepth 100000 in
theorem open_nums {H : Type} {enc : TypeId × Value → H} {W : World} {fuel : Nat} {t e : TypeId} {q : IntKind} (ht : Try.prog.underlying t = some (.slice e)) (he : Try.prog.underlying e = some (.int q)) (hc1 : Try.prog.cellsOf e = 1)
    {a0 : Option Addr} {len cap : Nat} {x : DataW H × List MemPlace} (h : DataW.trod enc Try.prog W 0 (fun _ => true) true fuel t [.slice a0 len cap] = some x) :
    ∃ A : List Int, A.length = len ∧ Ag W a0 A.length 1 (ints q A) ∧ ∀ y ∈ A, (Lit.int q y).wf = true := by
  rcases Deep.open_slice1 ht hc1 h with ⟨hc, _⟩ | ⟨a, len', cap', m, n, V, D, Pl, hc, _, hl, hm, hmm, _, hel⟩
  · simp at hc
    obtain ⟨rfl, rfl, rfl⟩ := hc
    exact ⟨[], rfl, ⟨rfl, by unfold maxLen; simp, fun h => by simp at h⟩, fun x hx => by cases hx⟩
  · simp at hc
    obtain ⟨rfl, rfl, rfl⟩ := hc
    have hmc : m = cap := by simpa using hmm
    have key : ∀ i, i < len → ∃ z : Int, W.cell? (a.add i) = some (.int q z) ∧ (Lit.int q z).wf = true := by
      intro i hi
      obtain ⟨hcell, ht1⟩ := hel i (by omega)
      obtain ⟨z, e1, _, w1⟩ := DataW.trod_int he ht1
      simp at e1
      exact ⟨z, by rw [hcell, e1], w1⟩
    obtain ⟨f, hf⟩ := Deep.choose_lt key
    refine ⟨(List.range len).map f, by simp, ⟨by simp [ints], by simp; omega, fun hn => ?_⟩, fun y hy => ?_⟩
    · have hn' : 0 < len := by simpa using hn
      have h0 := (hf 0 hn').1
      have hsp : a.spot = none := by rw [add_zero] at h0; exact spot_none h0
      refine ⟨a.block, a.off, by cases a; simp at hsp; simp [hsp], ?_, fun j u hj => ?_⟩
      · rw [add_flat hsp] at h0
        exact World.block_lt_of_cell? W ⟨a.block, a.off + 0, none⟩ h0
      · have hjl : j < len := by
          have := (List.getElem?_eq_some_iff.1 hj).1
          simpa [ints] using this
        have h1 := (hf j hjl).1
        rw [add_flat hsp] at h1
        rw [h1]
        simpa [ints, hjl] using hj
    · obtain ⟨i, hi, rfl⟩ := List.mem_map.1 hy
      exact (hf i (List.mem_range.1 hi)).2
theorem open_ints {H : Type} {enc : TypeId × Value → H} {W : World} {fuel : Nat} {a0 : Option Addr} {len cap : Nat} {x : DataW H × List MemPlace} (h : DataW.trod enc Try.prog W 0 (fun _ => true) true fuel 37 [.slice a0 len cap] = some x) :
    ∃ A : List Int, A.length = len ∧ Ag W a0 A.length 1 (ints .i64 A) ∧ ∀ y ∈ A, (Lit.int .i64 y).wf = true := open_nums Try.underlying37 Try.underlying2 cells2 h
theorem open_u8s {H : Type} {enc : TypeId × Value → H} {W : World} {fuel : Nat} {a0 : Option Addr} {len cap : Nat} {x : DataW H × List MemPlace} (h : DataW.trod enc Try.prog W 0 (fun _ => true) true fuel 53 [.slice a0 len cap] = some x) :
    ∃ A : List Int, A.length = len ∧ Ag W a0 A.length 1 (ints .u8 A) ∧ ∀ y ∈ A, 0 ≤ y ∧ y ≤ 255 := by
  obtain ⟨A, h1, h2, h3⟩ := open_nums Try.underlying53 Try.underlying5 cells5 h
  exact ⟨A, h1, h2, fun y hy => wf_u8 (h3 y hy)⟩
end Go.Proofs.Ytklnbfelcpnbeaa
