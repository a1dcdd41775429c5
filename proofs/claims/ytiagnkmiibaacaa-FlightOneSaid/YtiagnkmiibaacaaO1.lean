/- A thousand askers, one fetch: what the statement FlightOne walks to. Conditions: the arguments lie in memory. -/
import Derived.Test.YtiagnkmiibaacaaAw
namespace Go.Proofs.Ytiagnkmiibaacaa
open Go.RowKit Go.Maps Go.ChangeMaps Go.WideMaps Go.Sort
set_option maxRecDepth 100000 in
set_option maxHeartbeats 1000000 in
theorem ints_any {w : World} {A B : Option Addr} {a b : List Int} {c d : Nat} (ha : IS w A a) (hb : IS w B b) (la : a.length < 1000000) (lb : b.length < 1000000) :
    Calls Try.prog 15 #[.slice A a.length c, .slice B b.length d] w fun e w' => e = .returned (.bool (decide (a = b))) ∧ Below w.heap.size w w' := by
  by_cases hl : a.length = b.length
  · have HL := Lib.hid hl
    have h0 : ((a.length : Int) != (b.length : Int)) = false := by simp [hl]
    have HA := Lib.hid ha
    have HB := Lib.hid hb
    have la' : (a.length : Int) < 1000000 := by omega
    clear ha hb hl lb
    go_enter Try.func15, Try.ntmps15
    go_wp2
    go_loopw [13] (fun i wr => ∃ k : Nat, k ≤ a.length ∧ i = .int .i64 k ∧ Hid (a.take k = b.take k) ∧ Hid (Below w.heap.size w wr)) (fun i _ => a.length - (intOf i).toNat)
    case atStart => exact ⟨0, Nat.zero_le _, rfl, rfl, Below.refl _ _⟩
    case round =>
      obtain ⟨k, hk, rfl, HE, HR⟩ := hrel
      by_cases hlt : k < a.length
      · have hlb : k < b.length := by have := HL.out; omega
        obtain ⟨g, o, hAe, hg, hc1⟩ := HA.out k hlt
        obtain ⟨g', o', hBe, hg', hc2⟩ := HB.out k hlb
        subst hAe hBe
        have q1 : wr.cell? ⟨g, o + k, none⟩ = some (.int .i64 a[k]) := (HR.out.cell hg).trans hc1
        have q2 : wr.cell? ⟨g', o' + k, none⟩ = some (.int .i64 b[k]) := (HR.out.cell hg').trans hc2
        have i0 : (0 : Int) ≤ (k : Int) := by omega
        have i1 : (k : Int) < (a.length : Int) := by omega
        have i2 : (k : Int) < (b.length : Int) := by omega
        have HN : Hid (∀ n, Below w.heap.size w (wr.drewN n)) := fun n => ⟨HR.out.os, HR.out.tape, HR.out.output, HR.out.size, HR.out.block⟩
        have e1 := take_snocF a k hlt
        have e2 := take_snocF b k hlb
        have HT : Hid (a.take (k + 1) = a.take k ++ [a[k]] ∧ b.take (k + 1) = b.take k ++ [b[k]]) := ⟨e1, e2⟩
        clear e1 e2 hc1 hc2 hg hg'
        by_cases hab : a[k] = b[k]
        · have hne : (a[k] != b[k]) = false := by simp [hab]
          have HAB := Lib.hid hab
          clear hab
          go_wp2
          go_quiet (fail)
          go_wp2
          go_roundw
          case rel => exact ⟨k + 1, by omega, by go_num, by show _ = _; rw [HT.out.1, HT.out.2, HE.out, HAB.out], HN.out _⟩
          case measure => simp [intOf]; omega
        · have hne : (a[k] != b[k]) = true := by simp [hab]
          have hf : Hid (decide (a = b) = false) := by
            show _ = _
            rw [decide_eq_false_iff_not]
            rintro rfl
            exact hab rfl
          clear hab
          go_wp2
          go_quiet (fail)
          go_wp2
          go_ret
          exact ⟨by rw [hf.out]; rfl, HN.out _⟩
      · have hf : Hid (decide (a = b) = true) := by
          show _ = _
          have := HE.out
          have := HL.out
          rw [decide_eq_true_iff]
          rw [List.take_of_length_le (by omega), List.take_of_length_le (by omega)] at *
          assumption
        go_wp2
        go_ret
        exact ⟨by rw [hf.out]; rfl, HR.out⟩
  · have h0 : ((a.length : Int) != (b.length : Int)) = true := by simp; omega
    have hf : Hid (decide (a = b) = false) := by
      show _ = _
      rw [decide_eq_false_iff_not]
      rintro rfl
      exact hl rfl
    clear hl ha hb
    go_enter Try.func15, Try.ntmps15
    go_wp2
    go_ret
    exact ⟨by rw [hf.out]; rfl, Below.refl _ _⟩
end Go.Proofs.Ytiagnkmiibaacaa
