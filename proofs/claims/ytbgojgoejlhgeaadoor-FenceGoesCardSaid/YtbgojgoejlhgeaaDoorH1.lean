/- What (ranges.Set).from does on a list that rises: the place of the first span that ends behind a byte. Conditions: the list lies in memory. -/
import Derived.Test.YtbgojgoejlhgeaaDoorM1
import Derived.WalkSpells
import Derived.WalkLawsBesides
import Derived.Lib.Hide
import Derived.Laws.Shifts
namespace Go.Proofs.YtbgojgoejlhgeaaDoor.Pr
open Go.RowKit Go.Proofs.YtbgojgoejlhgeaaDoorW.PrintWords

/-- the place of the first span that ends behind a byte -/
def fr (l : List S42) (at_ : Int) : Nat := (l.takeWhile fun s => decide (s.f1 ≤ at_)).length
def Ups (l : List S42) : Prop := l.Pairwise (fun a b => a.f1 ≤ b.f1)
theorem Norm.ups {l : List S42} (h : Norm l) : Ups l := by
  induction l with
  | nil => exact List.Pairwise.nil
  | cons s r ih =>
    refine List.pairwise_cons.2 ⟨fun t ht => ?_, ih h.tail⟩
    have := h.gap ht
    have := (h.ok t (by simp [ht])).2.1
    omega
theorem fr_le (l : List S42) (a : Int) : fr l a ≤ l.length := List.Sublist.length_le (List.takeWhile_sublist _)
theorem rd_getElem (l : List S42) (i : Nat) (h : i < l.length) : rd_T42 l (i : Int) = l[i] := by simp [rd_T42, List.getD_eq_getElem?_getD, h]
theorem fr_iff {l : List S42} (hu : Ups l) (a : Int) (i : Nat) (h : i < l.length) : (rd_T42 l i).f1 ≤ a ↔ i < fr l a := by
  rw [rd_getElem l i h]
  induction l generalizing i with
  | nil => simp at h
  | cons s r ih =>
    unfold fr
    rw [List.takeWhile_cons]
    obtain ⟨h1, h2⟩ := List.pairwise_cons.1 hu
    by_cases hs : s.f1 ≤ a
    · rw [if_pos (by simpa using hs)]
      cases i with
      | zero => simp [hs]
      | succ i =>
        have := ih h2 i (by simpa using h)
        unfold fr at this
        simpa using this
    · rw [if_neg (by simpa using hs)]
      cases i with
      | zero => simp [hs]
      | succ i =>
        have hi : i < r.length := by simpa using h
        have h3 := h1 r[i] (List.getElem_mem hi)
        simp; omega

theorem cl55 (s : S42) (a : Int) (w : World) :
    Calls Tryd.prog 55 #[.agg #[.int .i64 s.f0, .int .i64 s.f1], .int .i64 a] w fun e w' => e = .returned (.int .i64 (if s.f1 ≤ a then -1 else 1)) ∧ w' = w.alloc (.cells #[.int .i64 s.f0, .int .i64 s.f1] 42) := by
  by_cases h : s.f1 ≤ a
  · rw [if_pos h]
    go_enter Tryd.func55, Tryd.ntmps55
    go_wp2_with fail
    go_ret
    exact ⟨rfl, rfl⟩
  · rw [if_neg h]
    go_enter Tryd.func55, Tryd.ntmps55
    go_wp2_with fail
    go_ret
    exact ⟨rfl, rfl⟩

theorem ret_ib {a b : Nat} (h : a = b) : Ending.returned (.tuple #[.int .i64 (a : Int), .bool false]) = .returned (.tuple #[.int .i64 (b : Int), .bool false]) := by rw [h]
set_option maxRecDepth 100000 in
set_option maxHeartbeats 1000000 in
theorem search54 {A : Option Addr} {l : List S42} {c : Nat} {a : Int} {w : World} (h : Kd.C k42 w A l.length l) (hm : l.length ≤ 8796093022208) (hu : Ups l) :
    Calls Tryd.prog 54 #[.slice A l.length c, .int .i64 a, .func (.func 55) #[] #[]] w fun e w' => e = .returned (.tuple #[.int .i64 (fr l a), .bool false]) ∧ Below w.heap.size w w' := by
  have HC := Lib.hid h
  have HU := Lib.hid hu
  have hfl := fr_le l a
  clear h hu
  go_enter Tryd.func54, Tryd.ntmps54
  go_wp2_with fail
  go_loopw [9, 10, 11] (fun i j _ wr => ∃ p q : Nat, p ≤ fr l a ∧ fr l a ≤ q ∧ q ≤ l.length ∧ i = .int .i64 p ∧ j = .int .i64 q ∧ Hid (Below w.heap.size w wr)) (fun i j _ _ => (intOf j).toNat - (intOf i).toNat)
  case atStart => exact ⟨0, l.length, Nat.zero_le _, hfl, Nat.le_refl _, rfl, rfl, Below.refl _ _⟩
  case round =>
    obtain ⟨p, q, hp, hq, hql, rfl, rfl, HB⟩ := hrel
    by_cases hlt : p < q
    · have hmb : (p + q) / 2 < l.length := by omega
      obtain ⟨ad, rfl, h0, h1⟩ := at_T42 (Kd.C_below HC.out HB.out) (((p + q) / 2 : Nat) : Int) (by omega) (by omega)
      rw [Int.toNat_natCast] at h0 h1
      have hI := fr_iff HU.out a ((p + q) / 2) hmb
      obtain ⟨s, hs⟩ : ∃ s, s = rd_T42 l (((p + q) / 2 : Nat) : Int) := ⟨_, rfl⟩
      rw [← hs] at h0 h1 hI
      have HI := Lib.hid hI
      have HF := fun w => cl55 s a w
      clear hI hs
      by_cases hle : s.f1 ≤ a
      · have hlt2 : (p + q) / 2 < fr l a := HI.out.1 hle
        simp only [if_pos hle] at HF
        have HG := Lib.hid HF
        clear hle HF
        go_wp2_with fail
        refine (HG.out _).mono ?_
        rintro e w1 ⟨rfl, rfl⟩
        go_wp2_with fail
        go_roundw
        case rel => exact ⟨(p + q) / 2 + 1, q, by omega, hq, hql, by simp, rfl, HB.out.alloc (by exact HB.out.size) _⟩
        case measure => simp [intOf]; omega
      · have hlt2 : fr l a ≤ (p + q) / 2 := Nat.le_of_not_lt fun h => hle (HI.out.2 h)
        simp only [if_neg hle] at HF
        have HG := Lib.hid HF
        clear hle HF
        go_wp2_with fail
        refine (HG.out _).mono ?_
        rintro e w1 ⟨rfl, rfl⟩
        go_wp2_with fail
        go_roundw
        case rel => exact ⟨p, (p + q) / 2, hp, hlt2, by omega, rfl, by simp, HB.out.alloc (by exact HB.out.size) _⟩
        case measure => simp [intOf]; omega
    · obtain rfl : p = q := by omega
      have e : p = fr l a := by omega
      have HE := Lib.hid e
      clear e hp hq hfl
      by_cases hpl : p < l.length
      · obtain ⟨ad, rfl, h0, h1⟩ := at_T42 (Kd.C_below HC.out HB.out) p (by omega) (by omega)
        rw [Int.toNat_natCast] at h0 h1
        have HF := fun w => cl55 (rd_T42 l p) a w
        simp only [if_neg (fun h => Nat.lt_irrefl p (Nat.lt_of_lt_of_eq ((fr_iff HU.out a p hpl).1 h) HE.out.symm))] at HF
        have HG := Lib.hid HF
        clear HF
        go_wp2_with fail
        refine (HG.out _).mono ?_
        rintro e w1 ⟨rfl, rfl⟩
        go_wp2_with fail
        go_ret2
        exact ⟨ret_ib HE.out, HB.out.alloc (by exact HB.out.size) _⟩
      · have hpl2 : p = l.length := by omega
        have hd : decide (p < l.length) = false := by simp; omega
        go_wp2_with fail
        go_ret2
        exact ⟨ret_ib HE.out, HB.out⟩

/-- (ranges.Set).from -/
theorem from40 {A : Option Addr} {l : List S42} {c : Nat} {a : Int} {w : World} (h : Kd.C k42 w A l.length l) (hm : l.length ≤ 8796093022208) (hu : Ups l) :
    Calls Tryd.prog 40 #[.agg #[.slice A l.length c], .int .i64 a] w fun e w' => e = .returned (.int .i64 (fr l a)) ∧ Below w.heap.size w w' := by
  have HF := Lib.hid (search54 (c := c) (a := a) (Kd.C_below h ((Below.refl _ w).alloc (Nat.le_refl _) (.cells #[.slice A l.length c] 29))) hm hu)
  clear h
  go_enter Tryd.func40, Tryd.ntmps40
  go_wp2_with fail
  refine HF.out.mono ?_
  rintro e w1 ⟨rfl, hb⟩
  have HB := Lib.hid hb
  clear hb
  go_wp2_with fail
  go_ret
  exact ⟨rfl, ((Below.refl _ w).alloc (Nat.le_refl _) _).trans (HB.out.mono (by simp))⟩

instance (l : List S42) : Decidable (Ups l) := by unfold Ups; exact inferInstance
def ranges_Set_from.f (l0_0 : List S42) (a1 : Int) : Option Int := if Ups l0_0 ∧ l0_0.length ≤ 8796093022208 then some (fr l0_0 a1) else none
theorem ranges_Set_from.calls (A0_0 : Option Addr) (c0_0 : Nat) (l0_0 : List (S42)) (a1 : Int) (r : Int) (w : World) (hr0_0 : Kd.C k42 w A0_0 l0_0.length l0_0) (_hc0_0 : l0_0.length ≤ c0_0) (h : ranges_Set_from.f l0_0 a1 = some r) :
    Calls Tryd.prog 40 #[.agg #[.slice A0_0 l0_0.length c0_0], .int .i64 a1] w fun e w' => e = .returned (.int .i64 r) ∧ Below w.heap.size w w' := by
  unfold ranges_Set_from.f at h
  split at h
  · rename_i hh
    obtain rfl := Option.some.inj h
    exact from40 hr0_0 hh.2 hh.1
  · cases h
end Go.Proofs.YtbgojgoejlhgeaaDoor.Pr
