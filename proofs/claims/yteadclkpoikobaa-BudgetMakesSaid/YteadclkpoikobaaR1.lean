/- What the reference's functions on a book do: reading. Conditions: the list of lines lies in memory. -/
import Derived.Test.YteadclkpoikobaaB2
namespace Go.Proofs.Yteadclkpoikobaa
open Go.RowKit Go.Maps Go.ChangeMaps Go.WideMaps

theorem ret_int {k : IntKind} {a b : Int} (h : a = b) : Ending.returned (.int k a) = .returned (.int k b) := by rw [h]
theorem bl_inj {a b : ByteArray} (h : a.toList = b.toList) : a = b := by
  have e : ∀ x : ByteArray, x.toList = x.data.toList := fun x => ByteArray.toList_eq x
  rw [e, e, Array.toList_inj] at h
  cases a; cases b; simp_all
theorem eqS_true {a b : ByteArray} (h : a = b) : (a.toList == b.toList) = true := by simp [h]
theorem eqS_false {a b : ByteArray} (h : ¬ a = b) : (a.toList == b.toList) = false := by
  rw [beq_eq_false_iff_ne]; exact fun e => h (bl_inj e)
/-- a slice of the call's own that reads as a list of cells: n elements of type e -/
structure Sl (w : World) (e : TypeId) (a : Option Addr) (n : Nat) (size : Nat) (xs : List Value) : Prop where
  len : xs.length = n * size
  max : n ≤ maxLen
  row : 0 < n → ∃ (g : Nat) (cur : Array Value) (z : Nat × Nat), a = some ⟨g, 0, none⟩ ∧ w.heap[g]? = some (.cells cur e z) ∧ ∀ (j : Nat) (u : Value), xs[j]? = some u → cur[j]? = some u
theorem Sl.cells {w : World} {e : TypeId} {a : Option Addr} {n size : Nat} {xs : List Value} (h : Sl w e a n size xs) (hn : 0 < n) : ∃ g, a = some ⟨g, 0, none⟩ ∧ g < w.heap.size ∧ ∀ j u, xs[j]? = some u → w.cell? ⟨g, j, none⟩ = some u := by
  obtain ⟨g, cur, z, ha, hg, hc⟩ := h.row hn
  exact ⟨g, ha, lt_of_obj hg, fun j u hj => cell_of hg (hc j u hj)⟩
theorem Sl.nil (w : World) (e : TypeId) (size : Nat) : Sl w e none 0 size [] := ⟨by simp, by unfold maxLen; omega, fun h => by omega⟩
theorem sl_of_row {w : World} {base : Nat} {e : TypeId} {size n : Nat} {v : Value} {xs : List Value} (h : w.ownsRow base e size v n xs) : ∃ a cap, v = .slice a n cap ∧ Sl w e a n size xs := by
  obtain ⟨h1, h2⟩ := h
  rcases h2 with ⟨rfl, rfl⟩ | ⟨g, cap, cur, rfl, hg, hh, r⟩
  · exact ⟨none, 0, rfl, h1, by unfold maxLen; omega, fun h => by omega⟩
  · refine ⟨some ⟨g, 0, none⟩, cap, rfl, h1, ?_, fun _ => ⟨g, cur, _, rfl, hh, fun j u hj => ?_⟩⟩
    · have := r; omega
    · have := r.2.2.2
      rw [← this, List.getElem?_take] at hj
      split at hj
      · simpa using hj
      · cases hj

/-- the cells of a list of lines -/
def flat : List Ln → List Value
  | [] => []
  | x :: r => .string x.1 :: .int .i64 x.2 :: flat r
theorem flat_length (L : List Ln) : (flat L).length = L.length * 2 := by
  induction L with
  | nil => rfl
  | cons x r ih => simp [flat, ih]; omega
theorem flat_append (L M : List Ln) : flat (L ++ M) = flat L ++ flat M := by
  induction L with
  | nil => rfl
  | cons x r ih => simp [flat, ih]
theorem flat_get0 (L : List Ln) (k : Nat) (h : k < L.length) : (flat L)[k * 2]? = some (.string L[k].1) := by
  induction L generalizing k with
  | nil => simp at h
  | cons x r ih =>
    cases k with
    | zero => simp [flat]
    | succ k =>
      have : (k + 1) * 2 = k * 2 + 1 + 1 := by omega
      rw [this]
      simp only [flat, List.getElem?_cons_succ, List.getElem_cons_succ]
      exact ih k (by simpa using h)
theorem flat_get1 (L : List Ln) (k : Nat) (h : k < L.length) : (flat L)[k * 2 + 1]? = some (.int .i64 L[k].2) := by
  induction L generalizing k with
  | nil => simp at h
  | cons x r ih =>
    cases k with
    | zero => simp [flat]
    | succ k =>
      have : (k + 1) * 2 + 1 = k * 2 + 1 + 1 + 1 := by omega
      rw [this]
      simp only [flat, List.getElem?_cons_succ, List.getElem_cons_succ]
      exact ih k (by simpa using h)

/-- the reference's book as a value -/
abbrev refV (all share : Int) (v : Value) : Value := .agg #[.int .i64 all, .int .i64 share, v]

theorem ofL_drop (L : List Ln) (k : Nat) (t : ByteArray) (h : k < L.length) : ofL (L.drop k) t = if L[k].1 = t then L[k].2 else ofL (L.drop (k + 1)) t := by
  rw [List.drop_eq_getElem_cons h]; rfl

set_option maxHeartbeats 400000 in
theorem rof_any {all share : Int} {L : List Ln} {a : Option Addr} {cap : Nat} {t : ByteArray} {w : World} (h : Sl w 71 a L.length 2 (flat L)) :
    Calls Try.prog 32 #[refV all share (.slice a L.length cap), .string t] w fun e w' => e = .returned (.int .i64 (ofL L t)) ∧ Ch (fun _ => False) w w' := by
  have hm := h.max
  unfold maxLen at hm
  go_enter Try.func32, Try.ntmps32
  go_wp2
  go_loop [5] (fun i => ∃ k : Nat, k ≤ L.length ∧ i = .int .i64 k ∧ Hid (ofL (L.drop k) t = ofL L t)) (fun i => L.length - (intOf i).toNat)
  case atStart => exact ⟨0, Nat.zero_le _, rfl, by simp [Hid]⟩
  case round =>
    obtain ⟨k, hk, rfl, hof⟩ := hrel
    by_cases hlt : k < L.length
    · obtain ⟨g, rfl, hg, hcells⟩ := h.cells (by omega)
      have d0 := hcells _ _ (flat_get0 L k hlt)
      have d1 := hcells _ _ (flat_get1 L k hlt)
      clear hcells
      have HD := Lib.hid (ofL_drop L k t hlt)
      by_cases he : L[k].1 = t
      · have hb := eqS_true he
        have HE := Lib.hid he
        clear he
        go_wp2
        go_ret
        exact ⟨ret_int (by rw [← hof.out, HD.out, if_pos HE.out]), (Ch.refl _ w).alloc _⟩
      · have hb := eqS_false he
        have HE := Lib.hid he
        clear he
        go_wp2
        go_round
        case rel => exact ⟨k + 1, by omega, by go_num, by rw [← hof.out, HD.out, if_neg HE.out]; rfl⟩
        case measure => simp [intOf]; omega
    · go_wp2
      go_ret
      exact ⟨ret_int (by rw [← hof.out, List.drop_eq_nil_of_le (by omega)]; rfl), (Ch.refl _ w).alloc _⟩

theorem sumL_take_succ (L : List Ln) (k : Nat) (h : k < L.length) : sumL (L.take (k + 1)) = sumL (L.take k) + L[k].2 := by
  rw [List.take_succ_eq_append_getElem h, sumL_append]
theorem sumL_take_le {L : List Ln} (h : ∀ x ∈ L, 0 ≤ x.2) (k : Nat) : sumL (L.take k) ≤ sumL L := by
  induction L generalizing k with
  | nil => simp [sumL]
  | cons x r ih =>
    have h2 := sumL_nonneg (L := r) fun y hy => h y (by simp [hy])
    have h1 := h x (by simp)
    cases k with
    | zero => simp only [List.take_zero, sumL]; omega
    | succ k => have := ih (fun y hy => h y (by simp [hy])) k; simp only [List.take_succ_cons, sumL]; omega

set_option maxHeartbeats 400000 in
theorem rsum_any {all share : Int} {L : List Ln} {a : Option Addr} {cap : Nat} {w : World} (h : Sl w 71 a L.length 2 (flat L)) (h0 : ∀ x ∈ L, 0 ≤ x.2) (h1 : sumL L ≤ 1125899906842624) :
    Calls Try.prog 34 #[refV all share (.slice a L.length cap)] w fun e w' => e = .returned (.int .i64 (sumL L)) ∧ Ch (fun _ => False) w w' := by
  have hm := h.max
  unfold maxLen at hm
  have H0 := Lib.hid h0
  clear h0
  go_enter Try.func34, Try.ntmps34
  go_wp2
  go_loop [3, 4] (fun n i => ∃ k : Nat, k ≤ L.length ∧ i = .int .i64 k ∧ n = .int .i64 (sumL (L.take k))) (fun _ i => L.length - (intOf i).toNat)
  case atStart => exact ⟨0, Nat.zero_le _, rfl, rfl⟩
  case round =>
    obtain ⟨k, hk, rfl, rfl⟩ := hrel
    by_cases hlt : k < L.length
    · obtain ⟨g, rfl, hg, hcells⟩ := h.cells (by omega)
      have d1 := hcells _ _ (flat_get1 L k hlt)
      clear hcells
      have HS := Lib.hid (sumL_take_succ L k hlt)
      have b0 : 0 ≤ sumL (L.take k) := sumL_nonneg fun x hx => H0.out x (List.mem_of_mem_take hx)
      have b1 : 0 ≤ L[k].2 := H0.out _ (List.getElem_mem hlt)
      have b2 : sumL (L.take k) + L[k].2 ≤ 1125899906842624 := by
        rw [← HS.out]; exact Int.le_trans (sumL_take_le H0.out _) h1
      go_wp2
      go_round
      case rel => exact ⟨k + 1, by omega, by go_num, by rw [HS.out]⟩
      case measure => simp [intOf]; omega
    · go_wp2
      go_ret
      exact ⟨ret_int (by rw [List.take_of_length_le (by omega)]), (Ch.refl _ w).alloc _⟩

/-! ### asking the reference -/
theorem rnumber_any (n : Int) (w : World) : Calls Try.prog 31 #[.int .i64 n] w fun e w' => e = .returned (.bool (okN n)) ∧ w = w' := by
  by_cases h0 : 0 ≤ n
  · by_cases h1 : n ≤ 1125899906842624
    · have H : Hid (okN n = true) := by simp [Hid, okN, h0, h1]
      go_enter Try.func31, Try.ntmps31
      go_wp2
      go_ret
      exact ⟨by rw [H.out]; simp, rfl⟩
    · have H : Hid (okN n = false) := by simp [Hid, okN, h1]
      go_enter Try.func31, Try.ntmps31
      go_wp2
      go_ret
      exact ⟨by rw [H.out]; simp, rfl⟩
  · have H : Hid (okN n = false) := by simp [Hid, okN, h0]
    go_enter Try.func31, Try.ntmps31
    go_wp2
    go_ret
    exact ⟨by rw [H.out]; simp, rfl⟩
end Go.Proofs.Yteadclkpoikobaa
