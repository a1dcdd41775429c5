/- A slice of spans that came in, opened. Conditions: none. -/
import Derived.Test.YtbgojgoejlhgeaaDoorOp
namespace Go.Proofs.YtbgojgoejlhgeaaDoor.Pr
open Go.RowKit Go.WideShapes Go.ChangeShapes Go.Proofs.YtbgojgoejlhgeaaDoorW.PrintWords
set_option maxRecDepth 100000 in
theorem open_spans1 {H : Type} {enc : TypeId × Value → H} {W : World} {b0 : Nat} {v : Value} {d : DataW H} {p : List MemPlace} (hv : Value.okWide Tryd.prog W .any b0 22 v) (h : DataW.Trod enc Tryd.prog W 0 (fun _ => true) true 22 v d p) :
    ∃ (A : Option Addr) (c : Nat) (l : List S42), v = .slice A l.length c ∧ Kd.C k42 W A l.length l ∧ l.length ≤ c := by
  obtain ⟨a1, len1, cap1, rfl⟩ := okWide_slice Tryd.underlying22 hv
  obtain ⟨fuel, hf⟩ := h
  exact open_spans (by simpa [Value.cells] using hf)
end Go.Proofs.YtbgojgoejlhgeaaDoor.Pr
