/- Few given states: what the functions say of them. Conditions: the state lies in memory. -/
import Derived.Test.YtbgojgoejlhgeaaDoorK1
import Derived.Deep.QuietTactic
import Derived.BigQuiet
import Derived.Deep.DeepCutAuto
import Derived.Deep.CutBlock
import Derived.Deep.RegionHeld3
namespace Go.Proofs.YtbgojgoejlhgeaaDoor.Pr
open Go.RowKit Go.Proofs.YtbgojgoejlhgeaaDoorW.PrintWords
section
variable {w : World} {s : St} {x : Sx}
theorem ofS_id {n : Nat} (h : NS s n) : ofS s = s := by
  unfold ofS; rw [ofL_norm h.r, ofL_norm h.h, ofL_norm h.f]
theorem own_n (h : MS w s x) (n : NS s 900) : Calls Tryd.prog 14 #[stV s x] w (StPost w s) := by
  have := own_c h (Nat.lt_of_le_of_lt n.lr (by omega)) (Nat.lt_of_le_of_lt n.lh (by omega)) (Nat.lt_of_le_of_lt n.lf (by omega))
  rwa [ofS_id n] at this
theorem spans_n (a b : Int) (w : World) : Calls Tryd.prog 33 #[.int .i64 a, .int .i64 b] w fun e w' => ∃ A c, e = .returned (.slice A 1 c) ∧ Kd.C k42 w' A 1 [⟨a, b⟩] ∧ 1 ≤ c ∧ Below w.heap.size w w' := spans_c a b w
/-- a state's eight cells -/
abbrev cellsS (s : St) (x : Sx) : Array Value := #[.bool s.head, .slice x.A1 s.R.length x.c1, .slice x.A2 s.H.length x.c2, .slice x.A3 s.F.length x.c3, .bool s.turned, .bool s.failed, .int .i64 s.again, .bool s.joins]
end
def sA (t : Bool) (r : List S42) (f : List S42) : St := ⟨true, r, [⟨3, 5⟩], f, t, false, 0, true⟩
theorem n35 : Norm [⟨3, 5⟩] := ⟨by decide, by decide⟩
theorem nsA {t : Bool} {r f : List S42} (hr : Norm r) (hf : Norm f) (h1 : r.length ≤ 1) (h2 : f.length ≤ 1) : NS (sA t r f) 900 :=
  ⟨hr, n35, hf, by show r.length ≤ 900; omega, by show 1 ≤ 900; omega, by show f.length ≤ 900; omega⟩
theorem n39 : Norm [⟨3, 9⟩] := ⟨by decide, by decide⟩
theorem n59 : Norm [⟨5, 9⟩] := ⟨by decide, by decide⟩
theorem n56 : Norm [⟨5, 6⟩] := ⟨by decide, by decide⟩
abbrev s1 : St := sA true [⟨3, 9⟩] []
abbrev s2 : St := sA true [⟨5, 9⟩] []
abbrev s3 : St := sA false [⟨5, 9⟩] []
abbrev s4 : St := sA false [⟨5, 9⟩] [⟨5, 6⟩]
abbrev s5 : St := sA false [] [⟨5, 6⟩]
theorem m1 : NS s1 900 := nsA n39 .nil (by decide) (by decide)
theorem m2 : NS s2 900 := nsA n59 .nil (by decide) (by decide)
theorem m3 : NS s3 900 := nsA n59 .nil (by decide) (by decide)
theorem m4 : NS s4 900 := nsA n59 n56 (by decide) (by decide)
theorem m5 : NS s5 900 := nsA .nil n56 (by decide) (by decide)
theorem d1 : decS s1 = 1 := by decide +kernel
theorem d2 : decS s2 = 5 := by decide +kernel
theorem d3 : decS s3 = 3 := by decide +kernel
theorem d4 : decS s4 = 2 := by decide +kernel
theorem d5 : decS s5 = 6 := by decide +kernel
theorem t5 : sureS s5 = true := by decide +kernel
theorem lost1 : lostS s1 = [⟨5, 9⟩] := rfl
end Go.Proofs.YtbgojgoejlhgeaaDoor.Pr
