/- The arguments of the statements, as they are read: a flight, a slice of numbers. Conditions: those of each theorem. -/
import Derived.Test.YtiagnkmiibaacaaNu
import Derived.WalkKit
import Derived.ProofKit
import Derived.OpenShut
import Derived.LaidMore
import Derived.Stop.Joined
import Derived.ChangeOld
import Derived.Deep.Slices
import Derived.Deep.Strs
import Derived.Lib.SmallJoins
namespace Go.Proofs.Ytiagnkmiibaacaa
open Go.ChangeShapes Go.WideShapes Go.ChangeAt Go.RowKit
theorem cells2 : Try.prog.cellsOf 2 = 1 := by kernel_rfl
theorem cells3 : Try.prog.cellsOf 3 = 1 := by kernel_rfl
theorem cells4 : Try.prog.cellsOf 4 = 1 := by kernel_rfl
theorem cells9 : Try.prog.cellsOf 9 = 1 := by kernel_rfl
theorem cells24 : Try.prog.cellsOf 24 = 2 := by kernel_rfl
theorem cells26 : Try.prog.cellsOf 26 = 2 := by kernel_rfl
theorem cells28 : Try.prog.cellsOf 28 = 7 := by kernel_rfl
theorem cells30 : Try.prog.cellsOf 30 = 14 := by kernel_rfl
theorem add_zero (a : Addr) : a.add 0 = a := by cases a; rename_i b o s; cases s <;> simp [Addr.add]
section
variable {H : Type} {enc : TypeId × Value → H} {W : World}
theorem spot_flat {a : Addr} {W : World} {v : Value} (h : W.cell? a = some v) : a.spot = none := by
  cases a with
  | mk b o s =>
    cases s with
    | none => rfl
    | some e =>
      exfalso
      simp only [World.cell?] at h
      split at h <;> simp at h
theorem add_flat' {a : Addr} (h : a.spot = none) (n : Nat) : a.add n = ⟨a.block, a.off + n, none⟩ := by
  cases a; simp at h; subst h; simp [Addr.add]
set_option maxRecDepth 100000 in
theorem open_ints {fuel : Nat} {a0 : Option Addr} {len cap : Nat} {x : DataW H × List MemPlace} (h : DataW.trod enc Try.prog W 0 (fun _ => true) true fuel 22 [.slice a0 len cap] = some x) :
    ∃ A : List Int, A.length = len ∧ IS W a0 A := by
  rcases Deep.open_slice1 Try.underlying22 cells3 h with ⟨hc, _⟩ | ⟨a, len', cap', m, n, V, D, Pl, hc, _, hl, hm, hmm, _, hel⟩
  · simp at hc
    obtain ⟨rfl, rfl, rfl⟩ := hc
    exact ⟨[], rfl, IS.nil _ _⟩
  · simp at hc
    obtain ⟨rfl, rfl, rfl⟩ := hc
    have hmc : m = cap := by simpa using hmm
    have key : ∀ i, i < len → ∃ z : Int, W.cell? (a.add i) = some (.int .i64 z) := by
      intro i hi
      obtain ⟨hcell, ht1⟩ := hel i (by omega)
      obtain ⟨z, e1, _, w1⟩ := DataW.trod_int Try.underlying3 ht1
      simp at e1
      exact ⟨z, by rw [hcell, e1]⟩
    obtain ⟨f, hf⟩ := Deep.choose_lt key
    refine ⟨(List.range len).map f, by simp, fun i hi => ?_⟩
    have hil : i < len := by simpa using hi
    have h0 := hf 0 (by omega)
    have hsp : a.spot = none := by rw [add_zero] at h0; exact spot_flat h0
    have h1 := hf i hil
    rw [add_flat' hsp] at h0 h1
    refine ⟨a.block, a.off, by cases a; simp at hsp; simp [hsp], World.block_lt_of_cell? W ⟨a.block, a.off + 0, none⟩ h0, ?_⟩
    rw [h1]
    simp
set_option maxRecDepth 100000 in
set_option maxHeartbeats 4000000 in
theorem open_fl {b0 : Nat} {v : Value} {d : DataW H} {p : List MemPlace} (hv : Value.okWide Try.prog W .any b0 30 v) (h : DataW.Trod enc Try.prog W 0 (fun _ => true) true 30 v d p) :
    ∃ f : Fl, v = .agg (cF f) := by
  obtain ⟨cs, rfl, hsz⟩ := okWide_struct Try.underlying30 hv
  rw [cells30] at hsz
  obtain ⟨fuel, hf⟩ := h
  obtain ⟨xs, n, _, _, hlc, hlen, hel⟩ := DataW.trod_struct Try.underlying30 hf
  obtain ⟨l⟩ := cs
  match l, hsz with
  | [c0, c1, c2, c3, c4, c5, c6, c7, c8, c9, c10, c11, c12, c13], _ =>
    match xs, hlen with
    | [y0, y1, y2, y3, y4, y5, y6, y7], _ =>
      have t0 := hel 0 _ rfl
      have t1 := hel 1 _ rfl
      have t2 := hel 2 _ rfl
      have t3 := hel 3 _ rfl
      have t4 := hel 4 _ rfl
      have t5 := hel 5 _ rfl
      have t6 := hel 6 _ rfl
      have t7 := hel 7 _ rfl
      simp [Value.cells, cells2, cells4, cells28] at t0 t1 t2 t3 t4 t5 t6 t7
      obtain ⟨i0, e, _, _⟩ := DataW.trod_int Try.underlying2 t0; simp at e; subst e
      obtain ⟨i8, e, _, _⟩ := DataW.trod_int Try.underlying2 t2; simp at e; subst e
      obtain ⟨i9, e, _, _⟩ := DataW.trod_int Try.underlying2 t3; simp at e; subst e
      obtain ⟨i10, e, _, _⟩ := DataW.trod_int Try.underlying2 t4; simp at e; subst e
      obtain ⟨i11, e, _, _⟩ := DataW.trod_int Try.underlying2 t5; simp at e; subst e
      obtain ⟨i12, e, _, _⟩ := DataW.trod_int Try.underlying2 t6; simp at e; subst e
      obtain ⟨b13, e, _⟩ := DataW.trod_bool Try.underlying4 t7; simp at e; subst e
      obtain ⟨zs, n2, _, _, _, hlen2, hel2⟩ := DataW.trod_struct Try.underlying28 t1
      match zs, hlen2 with
      | [z0, z1, z2, z3], _ =>
        have s0 := hel2 0 _ rfl
        have s1 := hel2 1 _ rfl
        have s2 := hel2 2 _ rfl
        have s3 := hel2 3 _ rfl
        simp [cells9, cells24, cells26] at s0 s1 s2 s3
        obtain ⟨o1, e, _, _⟩ := DataW.trod_string Try.underlying9 s0; simp at e; subst e
        obtain ⟨u3, n3, _, _, _, hl3, h3⟩ := DataW.trod_struct Try.underlying24 s1
        obtain ⟨u4, n4, _, _, _, hl4, h4⟩ := DataW.trod_struct Try.underlying26 s2
        obtain ⟨u5, n5, _, _, _, hl5, h5⟩ := DataW.trod_struct Try.underlying26 s3
        match u3, hl3, u4, hl4, u5, hl5 with
        | [p0, p1], _, [p2, p3], _, [p4, p5], _ =>
          have r0 := h3 0 _ rfl
          have r1 := h3 1 _ rfl
          have r2 := h4 0 _ rfl
          have r3 := h4 1 _ rfl
          have r4 := h5 0 _ rfl
          have r5 := h5 1 _ rfl
          simp [cells2, cells9, cells4] at r0 r1 r2 r3 r4 r5
          obtain ⟨a0, e, _, _⟩ := DataW.trod_int Try.underlying2 r0; simp at e; subst e
          obtain ⟨a1, e, _, _⟩ := DataW.trod_int Try.underlying2 r1; simp at e; subst e
          obtain ⟨m0, e, _, _⟩ := DataW.trod_string Try.underlying9 r2; simp at e; subst e
          obtain ⟨m1, e, _⟩ := DataW.trod_bool Try.underlying4 r3; simp at e; subst e
          obtain ⟨g0, e, _, _⟩ := DataW.trod_string Try.underlying9 r4; simp at e; subst e
          obtain ⟨g1, e, _⟩ := DataW.trod_bool Try.underlying4 r5; simp at e; subst e
          exact ⟨⟨i0, o1, a0, a1, m0, m1, g0, g1, i8, i9, i10, i11, i12, b13⟩, rfl⟩
end
end Go.Proofs.Ytiagnkmiibaacaa
