/- A state that came in, opened; the table of texts as the program's text lays it. Conditions: none. -/
import Derived.Test.YtbgojgoejlhgeaaDoorRows
import Derived.Test.YtbgojgoejlhgeaaDoorAw
import Derived.WalkKit
import Derived.ProofKit
import Derived.OpenShut
import Derived.LaidMore
import Derived.Stop.Joined
import Derived.ChangeOld
import Derived.Deep.Slices
import Derived.Deep.Strs
import Derived.Lib.SmallJoins
namespace Go.Proofs.YtbgojgoejlhgeaaDoor.Pr
open Go.RowKit Go.WideShapes Go.ChangeShapes Go.Proofs.YtbgojgoejlhgeaaDoorW.PrintWords
theorem cells42 : Tryd.prog.cellsOf 42 = 2 := by kernel_rfl
theorem cells2 : Tryd.prog.cellsOf 2 = 1 := by kernel_rfl
theorem cells3 : Tryd.prog.cellsOf 3 = 1 := by kernel_rfl
theorem cells4 : Tryd.prog.cellsOf 4 = 1 := by kernel_rfl
theorem cells22 : Tryd.prog.cellsOf 22 = 1 := by kernel_rfl
theorem cells24 : Tryd.prog.cellsOf 24 = 8 := by kernel_rfl
section
variable {H : Type} {enc : TypeId × Value → H} {W : World}
set_option maxRecDepth 100000 in
theorem open_spans {fuel : Nat} {v : Value} {x : DataW H × List MemPlace} (h : DataW.trod enc Tryd.prog W 0 (fun _ => true) true fuel 22 [v] = some x) :
    ∃ (A : Option Addr) (c : Nat) (l : List S42), v = .slice A l.length c ∧ Kd.C k42 W A l.length l ∧ l.length ≤ c := by
  rcases Deep.open_slice Tryd.underlying22 h with ⟨hc, _⟩ | ⟨a, len, cap, m, n, D, Pl, hc, _, hl, hm, hmm, _, hel⟩
  · simp at hc
    exact ⟨none, 0, [], hc, Kd.C_nil _ _, Nat.le_refl 0⟩
  · simp at hc
    have hmc : m = cap := by simpa using hmm
    have key : ∀ i, i < len → ∃ y : S42, W.cell? (a.add (i * 2)) = some (.int .i64 y.f0) ∧ W.cell? (a.add (i * 2 + 1)) = some (.int .i64 y.f1) := by
      intro i hi
      obtain ⟨cs', hcs, ht⟩ := hel i (by omega)
      rw [cells42] at hcs
      obtain ⟨y0, y1, n', _, hlen, t0, t1⟩ := trod_struct2 Tryd.underlying42 ht
      rw [cells42] at hlen
      match cs', hlen with
      | [c0, c1], _ =>
        simp [cells2] at t0 t1
        obtain ⟨s, e0, _, w0⟩ := DataW.trod_int Tryd.underlying2 t0
        obtain ⟨z, e1, _, w1⟩ := DataW.trod_int Tryd.underlying2 t1
        simp at e0 e1
        subst e0 e1
        obtain ⟨_, _, hg⟩ := World.cells?_some hcs
        have h0 := hg 0 (by omega)
        have h1 := hg 1 (by omega)
        rw [Deep.add_add] at h0 h1
        exact ⟨⟨s, z⟩, by simpa using h0, by simpa using h1⟩
    have hin : Inhabited S42 := ⟨⟨0, 0⟩⟩
    obtain ⟨f, hf⟩ := Deep.choose_lt key
    have hlen : ((List.range len).map f).length = len := by simp
    refine ⟨some a, cap, (List.range len).map f, by rw [hlen]; exact hc, ⟨rfl, ?_, fun _ => ⟨a, rfl, ?_⟩⟩, by rw [hlen]; exact hl⟩
    · rw [hlen]; unfold maxLen at hm; omega
    · intro j p hj
      have hj' : j < len := by have := (List.getElem?_eq_some_iff.1 hj).1; simpa using this
      have hp : p = f j := by
        rw [List.getElem?_map, List.getElem?_range hj'] at hj
        exact (Option.some.inj hj).symm
      subst hp
      refine ⟨[.int .i64 (f j).f0, .int .i64 (f j).f1], rfl, k42_mk W (f j), fun i u hu => ?_⟩
      obtain ⟨h0, h1⟩ := hf j hj'
      match i, hu with
      | 0, hu => cases hu; exact h0
      | 1, hu => cases hu; exact h1
set_option maxRecDepth 100000 in
theorem open_state {b0 : Nat} {v : Value} {d : DataW H} {p : List MemPlace} (hv : Value.okWide Tryd.prog W .any b0 24 v) (h : DataW.Trod enc Tryd.prog W 0 (fun _ => true) true 24 v d p) :
    ∃ (s : St) (x : Sx), v = stV s x ∧ MS W s x := by
  obtain ⟨cs, rfl, hsz⟩ := okWide_struct Tryd.underlying24 hv
  rw [cells24] at hsz
  obtain ⟨fuel, hf⟩ := h
  obtain ⟨xs, n, _, _, hlc, hlen, hel⟩ := DataW.trod_struct Tryd.underlying24 hf
  obtain ⟨l⟩ := cs
  match l, hsz with
  | [c0, c1, c2, c3, c4, c5, c6, c7], _ =>
    match xs, hlen with
    | [y0, y1, y2, y3, y4, y5, y6, y7], _ =>
      have t0 := hel 0 _ rfl
      have t1 := hel 1 _ rfl
      have t2 := hel 2 _ rfl
      have t3 := hel 3 _ rfl
      have t4 := hel 4 _ rfl
      have t5 := hel 5 _ rfl
      have t6 := hel 6 _ rfl
      have t7 := hel 7 _ rfl
      simp [Value.cells, cells3, cells4, cells22] at t0 t1 t2 t3 t4 t5 t6 t7
      obtain ⟨b0, rfl, _⟩ : ∃ b, c0 = .bool b ∧ True := by obtain ⟨b, e, _⟩ := DataW.trod_bool Tryd.underlying4 t0; simp at e; exact ⟨b, e, trivial⟩
      obtain ⟨b4, rfl, _⟩ : ∃ b, c4 = .bool b ∧ True := by obtain ⟨b, e, _⟩ := DataW.trod_bool Tryd.underlying4 t4; simp at e; exact ⟨b, e, trivial⟩
      obtain ⟨b5, rfl, _⟩ : ∃ b, c5 = .bool b ∧ True := by obtain ⟨b, e, _⟩ := DataW.trod_bool Tryd.underlying4 t5; simp at e; exact ⟨b, e, trivial⟩
      obtain ⟨b7, rfl, _⟩ : ∃ b, c7 = .bool b ∧ True := by obtain ⟨b, e, _⟩ := DataW.trod_bool Tryd.underlying4 t7; simp at e; exact ⟨b, e, trivial⟩
      obtain ⟨b6, rfl, _⟩ : ∃ b, c6 = .int .i64 b ∧ True := by obtain ⟨b, e, _, _⟩ := DataW.trod_int Tryd.underlying3 t6; simp at e; exact ⟨b, e, trivial⟩
      obtain ⟨A1, k1, l1, rfl, r1, e1⟩ := open_spans t1
      obtain ⟨A2, k2, l2, rfl, r2, e2⟩ := open_spans t2
      obtain ⟨A3, k3, l3, rfl, r3, e3⟩ := open_spans t3
      exact ⟨⟨b0, l1, l2, l3, b4, b5, b6, b7⟩, ⟨A1, k1, A2, k2, A3, k3⟩, rfl, ⟨r1, e1, r2, e2, r3, e3⟩⟩
end
abbrev laid4 {H : Type} : List (String × DataW H) := [("math/bits.deBruijn32tab", Rows.laid_math_bits_deBruijn32tab), ("math/bits.deBruijn64tab", Rows.laid_math_bits_deBruijn64tab), ("internal/strconv.uint64pow10", Rows.laid_internal_strconv_uint64pow10), ("mandoline/fence.texts", Rows.laid_mandoline_fence_texts)]
theorem gTexts : Tryd.prog.globalNamed "mandoline/fence.texts" = some 0 := by kernel_rfl
theorem tTexts : (Tryd.prog.globals[0]?).map (·.type) = some 63 := by kernel_rfl
theorem door_met (os : Os) (args : Array Value) : laidMetH Tryd.prog laid4 ((World.doorLaid Tryd.prog 400 os).forCall (fun _ _ => 0) ⟨#[], args, []⟩).memory :=
  laidMetH_of_parts3 (fuel := 8) (laidMet_of_run' 8 (by kernel_rfl) (by kernel_rfl)) (by kernel_rfl) (by kernel_rfl)
set_option maxRecDepth 100000 in
theorem of_laid {W : World} (h : laidMetH Tryd.prog laid4 W) : GT W := by
  rw [MakeChecks.laidMetH_plain _ _ _ (by kernel_rfl)] at h
  obtain ⟨ps, ⟨g0, t0, cs0, f0, p0, q0, hg0, ht0, hv0, hd0, ⟨g1, t1, cs1, f1, p1, q1, hg1, ht1, hv1, hd1, ⟨g2, t2, cs2, f2, p2, q2, hg2, ht2, hv2, hd2, ⟨g3, t3, cs3, f3, p3, q3, hg3, ht3, hv3, hd3, _, _⟩, _⟩, _⟩, _⟩, _, _⟩ := h
  obtain rfl := Option.some.inj (gTexts.symm.trans hg3)
  obtain rfl := Option.some.inj (tTexts.symm.trans ht3)
  have c9 : Tryd.prog.cellsOf 9 = 1 := by kernel_rfl
  obtain ⟨xs, m1, rfl, hx1, hlen, hn3, hel⟩ := DataW.trod_array Tryd.underlying63 hd3
  have c63 : Tryd.prog.cellsOf 63 = 7 := by kernel_rfl
  rw [c63] at hlen
  have hcell := World.var?_cell hg3 hv3
  simp only [Prod.mk.injEq] at hx1
  have one : ∀ (v : Value) (x : DataW Unit × List MemPlace) (l : List UInt8), DataW.trod (fun _ => ()) Tryd.prog W 0 (fun _ => true) false m1 9 [v] = some x → x.1 = .lit (.string l) → v = .string ⟨l.toArray⟩ := by
    intro v x l ht hx
    obtain ⟨s, e, rfl, _⟩ := DataW.trod_string Tryd.underlying9 ht
    simp at e hx
    rw [e, ← hx]
  obtain ⟨l⟩ := cs3
  match l, hlen, xs, hn3 with
  | [v0, v1, v2, v3, v4, v5, v6], _, [x0, x1, x2, x3, x4, x5, x6], _ =>
    have t0 := hel 0 (by decide)
    have t1 := hel 1 (by decide)
    have t2 := hel 2 (by decide)
    have t3 := hel 3 (by decide)
    have t4 := hel 4 (by decide)
    have t5 := hel 5 (by decide)
    have t6 := hel 6 (by decide)
    simp [c9] at t0 t1 t2 t3 t4 t5 t6
    have hx := hx1.1
    simp only [Rows.laid_mandoline_fence_texts, DataW.agg.injEq, List.map_cons, List.map_nil, List.cons.injEq, and_true] at hx
    obtain ⟨k0, k1, k2, k3, k4, k5, k6⟩ := hx
    obtain rfl := one v0 x0 _ t0 k0.symm
    obtain rfl := one v1 x1 _ t1 k1.symm
    obtain rfl := one v2 x2 _ t2 k2.symm
    obtain rfl := one v3 x3 _ t3 k3.symm
    obtain rfl := one v4 x4 _ t4 k4.symm
    obtain rfl := one v5 x5 _ t5 k5.symm
    obtain rfl := one v6 x6 _ t6 k6.symm
    refine ⟨World.block_lt_of_cell? W ⟨0, 0, none⟩ ((hcell 0).trans rfl), fun i hi => ?_⟩
    rw [hcell i]
    match i, hi with
    | 0, _ => rfl
    | 1, _ => rfl
    | 2, _ => rfl
    | 3, _ => rfl
    | 4, _ => rfl
    | 5, _ => rfl
    | 6, _ => rfl
end Go.Proofs.YtbgojgoejlhgeaaDoor.Pr
