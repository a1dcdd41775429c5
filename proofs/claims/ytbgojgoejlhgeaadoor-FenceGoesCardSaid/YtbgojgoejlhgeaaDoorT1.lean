/- Texts: what fence.Text, the document's Text and the text of one set are. Conditions: the table of texts lies in memory as the program's text lays it. -/
import Derived.Test.YtbgojgoejlhgeaaDoorH2
import Derived.Deep.QuietTactic
import Derived.BigQuiet
namespace Go.Proofs.YtbgojgoejlhgeaaDoor.Pr
open Go.RowKit Go.Proofs.YtbgojgoejlhgeaaDoorW.PrintWords

/-- the texts, by number -/
def txt : Nat → ByteArray
  | 1 => ⟨#[103, 111]⟩
  | 2 => ⟨#[119, 97, 105, 116]⟩
  | 3 => ⟨#[97, 115, 107]⟩
  | 4 => ⟨#[97, 110, 101, 119]⟩
  | 5 => ⟨#[99, 117, 116]⟩
  | 6 => ⟨#[100, 111, 110, 101]⟩
  | _ => ⟨#[]⟩
/-- the table of texts, in memory -/
def GT (W : World) : Prop := 0 < W.heap.size ∧ ∀ i, i < 7 → W.cell? ⟨0, i, none⟩ = some (.string (txt i))
theorem GT.below {w w' : World} (h : GT w) (b : Below w.heap.size w w') : GT w' :=
  ⟨Nat.lt_of_lt_of_le h.1 b.size, fun i hi => (b.cell (p := ⟨0, i, none⟩) h.1).trans (h.2 i hi)⟩
def txtI (d : Int) : ByteArray := if 1 ≤ d ∧ d ≤ 6 then txt d.toNat else ⟨#[]⟩
theorem ret_str {a b : ByteArray} (h : a = b) : Ending.returned (.string a) = .returned (.string b) := by rw [h]
theorem text21 {d : Int} {w : World} (h : GT w) : Calls Tryd.prog 21 #[.int .i64 d] w fun e w' => e = .returned (.string (txtI d)) ∧ w = w' := by
  have HG := Lib.hid h
  by_cases h0 : d < 0
  · have e0 : Hid (txtI d = ⟨#[]⟩) := by unfold Hid txtI; rw [if_neg (by omega)]
    clear h
    go_enter Tryd.func21, Tryd.ntmps21
    go_wp2_with fail
    go_ret
    exact ⟨ret_str e0.out.symm, rfl⟩
  · by_cases h7 : d ≥ 7
    · have e0 : Hid (txtI d = ⟨#[]⟩) := by unfold Hid txtI; rw [if_neg (by omega)]
      clear h
      go_enter Tryd.func21, Tryd.ntmps21
      go_wp2_with fail
      go_ret
      exact ⟨ret_str e0.out.symm, rfl⟩
    · obtain ⟨n, rfl⟩ : ∃ n : Nat, d = n := ⟨d.toNat, by omega⟩
      have hn : n < 7 := by omega
      have hc := h.2 n hn
      have e0 : Hid (txt n = txtI n) := by
        unfold Hid txtI
        by_cases hz : n = 0
        · subst hz; rfl
        · rw [if_pos (by omega)]; rfl
      clear h
      generalize txt n = t at hc e0
      go_enter Tryd.func21, Tryd.ntmps21
      go_wp2_with fail
      go_ret
      exact ⟨ret_str e0.out, rfl⟩
theorem text22 (d : Int) (w : World) : Calls Tryd.prog 22 #[.int .i64 d] w fun e w' => e = .returned (.string (txtI d)) ∧ Below w.heap.size w w' := by
  by_cases h0 : d < 1
  · have e0 : Hid (txtI d = ⟨#[]⟩) := by unfold Hid txtI; rw [if_neg (by omega)]
    go_enter Tryd.func22, Tryd.ntmps22
    go_wp2_with fail
    go_ret
    exact ⟨ret_str e0.out.symm, (Below.refl _ w).alloc (Nat.le_refl _) _⟩
  · by_cases h7 : d > 6
    · have e0 : Hid (txtI d = ⟨#[]⟩) := by unfold Hid txtI; rw [if_neg (by omega)]
      go_enter Tryd.func22, Tryd.ntmps22
      go_wp2_with fail
      go_ret
      exact ⟨ret_str e0.out.symm, (Below.refl _ w).alloc (Nat.le_refl _) _⟩
    · have h6 : d = 1 ∨ d = 2 ∨ d = 3 ∨ d = 4 ∨ d = 5 ∨ d = 6 := by omega
      clear h0 h7
      rcases h6 with rfl | rfl | rfl | rfl | rfl | rfl
      all_goals
        go_enter Tryd.func22, Tryd.ntmps22
        go_wp2_with fail
        go_ret
        exact ⟨rfl, (Below.refl _ w).alloc (Nat.le_refl _) _⟩
/-- FormatInt of one digit -/
theorem fmt61 (d : Int) (h0 : 0 ≤ d) (h9 : d ≤ 9) (w : World) : Calls Tryd.prog 61 #[.int .i64 d, .int .i64 10] w fun e w' => e = .returned (.string ⟨#[(48 + d.toNat).toUInt8]⟩) ∧ w' = w := by
  have h6 : d = 0 ∨ d = 1 ∨ d = 2 ∨ d = 3 ∨ d = 4 ∨ d = 5 ∨ d = 6 ∨ d = 7 ∨ d = 8 ∨ d = 9 := by omega
  clear h0 h9
  rcases h6 with rfl | rfl | rfl | rfl | rfl | rfl | rfl | rfl | rfl | rfl
  all_goals
    go_enter Tryd.func61, Tryd.ntmps61
    go_wp2
    go_ret
    exact ⟨rfl, rfl⟩
end Go.Proofs.YtbgojgoejlhgeaaDoor.Pr
