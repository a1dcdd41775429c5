/- Books of budgets as lists of names and numbers: plain laws, with no program in sight. Conditions: none. -/
import Derived.Sort.KeysCollected
namespace Go.Proofs.Yteadclkpoikobaa

abbrev Ln := ByteArray × Int

def ofL : List Ln → ByteArray → Int
  | [], _ => 0
  | x :: r, k => if x.1 = k then x.2 else ofL r k
def sumL : List Ln → Int
  | [] => 0
  | x :: r => x.2 + sumL r
def hasL : List Ln → ByteArray → Bool
  | [], _ => false
  | x :: r, k => if x.1 = k then true else hasL r k
def setL (L : List Ln) (k : ByteArray) (n : Int) : List Ln := L.map fun x => if x.1 = k then (x.1, n) else x
def withL (L : List Ln) (k : ByteArray) (n : Int) : List Ln := if hasL L k then setL L k n else L ++ [(k, n)]

theorem hasL_iff (L : List Ln) (k : ByteArray) : hasL L k = true ↔ k ∈ L.map (·.1) := by
  induction L with
  | nil => simp [hasL]
  | cons x r ih =>
    by_cases h : x.1 = k
    · simp [hasL, h]
    · have h' : ¬ k = x.1 := fun e => h e.symm
      simp [hasL, h, h', ih]
theorem ofL_not {L : List Ln} {k : ByteArray} (h : hasL L k = false) : ofL L k = 0 := by
  induction L with
  | nil => rfl
  | cons x r ih =>
    by_cases e : x.1 = k
    · simp [hasL, e] at h
    · simp [hasL, e] at h
      simp [ofL, e, ih h]
theorem ofL_append (L : List Ln) (k j : ByteArray) (n : Int) (h : hasL L k = false) : ofL (L ++ [(k, n)]) j = if k = j then n else ofL L j := by
  induction L with
  | nil => simp [ofL]
  | cons x r ih =>
    by_cases e : x.1 = k
    · simp [hasL, e] at h
    · simp [hasL, e] at h
      have := ih h
      simp only [List.cons_append, ofL, this]
      by_cases e1 : x.1 = j
      · have : ¬ k = j := fun e2 => e (e1.trans e2.symm)
        simp [e1, this]
      · simp [e1]
theorem ofL_set (L : List Ln) (k j : ByteArray) (n : Int) (h : hasL L k = true) : ofL (setL L k n) j = if k = j then n else ofL L j := by
  induction L with
  | nil => simp [hasL] at h
  | cons x r ih =>
    by_cases e : x.1 = k
    · by_cases e1 : k = j
      · simp [setL, ofL, e, e1]
      · have e2 : ¬ x.1 = j := fun e2 => e1 (e.symm.trans e2)
        simp only [setL, List.map_cons, ofL, e, e1, ↓reduceIte]
        by_cases h' : hasL r k = true
        · have := ih h'
          simpa [setL, e1] using this
        · have h'' : hasL r k = false := by simpa using h'
          have : setL r k n = r := by
            unfold setL
            refine (List.map_congr_left fun y hy => ?_).trans (List.map_id _)
            have : ¬ y.1 = k := fun e => by
              have := (hasL_iff r k).2 (List.mem_map.2 ⟨y, hy, e⟩)
              rw [h''] at this; cases this
            simp [this]
          show ofL (setL r k n) j = _
          rw [this]
    · have h' : hasL r k = true := by simpa [hasL, e] using h
      have := ih h'
      simp only [setL, List.map_cons, e, ↓reduceIte, ofL]
      by_cases e1 : x.1 = j
      · have : ¬ k = j := fun e2 => e (e1.trans e2.symm)
        simp [e1, this]
      · simp only [e1, ↓reduceIte]; exact this
theorem ofL_with (L : List Ln) (k j : ByteArray) (n : Int) : ofL (withL L k n) j = if k = j then n else ofL L j := by
  unfold withL
  by_cases h : hasL L k = true
  · rw [if_pos h, ofL_set L k j n h]
  · rw [if_neg h, ofL_append L k j n (by simpa using h)]

theorem sumL_append (L : List Ln) (x : Ln) : sumL (L ++ [x]) = sumL L + x.2 := by
  induction L with
  | nil => simp [sumL]
  | cons y r ih => simp only [List.cons_append, sumL, ih]; omega
theorem set_none {r : List Ln} {k : ByteArray} {n : Int} (h : k ∉ r.map (·.1)) : setL r k n = r := by
  unfold setL
  refine (List.map_congr_left fun y hy => ?_).trans (List.map_id _)
  have : ¬ y.1 = k := fun e => h (List.mem_map.2 ⟨y, hy, e⟩)
  simp [this]
theorem ofL_none {L : List Ln} {k : ByteArray} (h : k ∉ L.map (·.1)) : ofL L k = 0 :=
  ofL_not (by have := mt (hasL_iff L k).1 h; simpa using this)
theorem sumL_set (L : List Ln) (k : ByteArray) (n : Int) (hnd : (L.map (·.1)).Nodup) (h : k ∈ L.map (·.1)) : sumL (setL L k n) = sumL L - ofL L k + n := by
  induction L with
  | nil => simp at h
  | cons x r ih =>
    rw [List.map_cons, List.nodup_cons] at hnd
    by_cases e : x.1 = k
    · subst e
      have : setL (x :: r) x.1 n = (x.1, n) :: r := by
        show (if x.1 = x.1 then (x.1, n) else x) :: setL r x.1 n = _
        rw [set_none hnd.1]; simp
      rw [this]
      simp only [sumL, ofL, ↓reduceIte]; omega
    · have h' : k ∈ r.map (·.1) := by
        rw [List.map_cons, List.mem_cons] at h
        rcases h with h | h
        · exact absurd h.symm e
        · exact h
      have := ih hnd.2 h'
      have e1 : setL (x :: r) k n = x :: setL r k n := by
        show (if x.1 = k then (x.1, n) else x) :: setL r k n = _
        rw [if_neg e]
      rw [e1]
      simp only [sumL, ofL, if_neg e, this]; omega
theorem sumL_with (L : List Ln) (k : ByteArray) (n : Int) (hnd : (L.map (·.1)).Nodup) : sumL (withL L k n) = sumL L - ofL L k + n := by
  unfold withL
  by_cases h : hasL L k = true
  · rw [if_pos h, sumL_set L k n hnd ((hasL_iff _ _).1 h)]
  · rw [if_neg h, sumL_append, ofL_not (by simpa using h)]; simp

theorem names_set (L : List Ln) (k : ByteArray) (n : Int) : (setL L k n).map (·.1) = L.map (·.1) := by
  unfold setL
  rw [List.map_map]
  exact List.map_congr_left fun y _ => by simp only [Function.comp]; split <;> rfl
theorem length_with (L : List Ln) (k : ByteArray) (n : Int) : (withL L k n).length ≤ L.length + 1 := by
  unfold withL; split <;> simp [setL]

/-- what a book always is -/
structure Inv (all share : Int) (L : List Ln) : Prop where
  nodup : (L.map (·.1)).Nodup
  rng : ∀ x ∈ L, 0 ≤ x.2 ∧ x.2 ≤ share ∧ x.1.size ≤ 200
  sum : sumL L ≤ all
  share0 : 0 ≤ share
  share1 : share ≤ all
  all1 : all ≤ 1125899906842624

theorem Inv.nil {all share : Int} (h0 : 0 ≤ share) (h1 : share ≤ all) (h2 : all ≤ 1125899906842624) : Inv all share [] :=
  ⟨by simp, by simp, by simp [sumL]; omega, h0, h1, h2⟩
theorem ofL_mem {L : List Ln} {x : Ln} (hnd : (L.map (·.1)).Nodup) (h : x ∈ L) : ofL L x.1 = x.2 := by
  induction L with
  | nil => cases h
  | cons y r ih =>
    rw [List.map_cons, List.nodup_cons] at hnd
    rcases List.mem_cons.1 h with rfl | h
    · simp [ofL]
    · have : ¬ y.1 = x.1 := fun e => hnd.1 (e ▸ List.mem_map.2 ⟨x, h, rfl⟩)
      simp [ofL, this, ih hnd.2 h]
theorem ofL_rng {all share : Int} {L : List Ln} (h : Inv all share L) (k : ByteArray) : 0 ≤ ofL L k ∧ ofL L k ≤ share := by
  by_cases hk : k ∈ L.map (·.1)
  · obtain ⟨x, hx, rfl⟩ := List.mem_map.1 hk
    rw [ofL_mem h.nodup hx]
    exact ⟨(h.rng x hx).1, (h.rng x hx).2.1⟩
  · rw [ofL_none hk]; exact ⟨by omega, h.share0⟩
theorem sumL_nonneg {L : List Ln} (h : ∀ x ∈ L, 0 ≤ x.2) : 0 ≤ sumL L := by
  induction L with
  | nil => simp [sumL]
  | cons x r ih =>
    have h1 := h x (by simp)
    have h2 := ih fun y hy => h y (by simp [hy])
    simp only [sumL]; omega
theorem Inv.sum0 {all share : Int} {L : List Ln} (h : Inv all share L) : 0 ≤ sumL L := sumL_nonneg fun x hx => (h.rng x hx).1
theorem ofL_le_sum {L : List Ln} (h : ∀ x ∈ L, 0 ≤ x.2) (k : ByteArray) : ofL L k ≤ sumL L := by
  induction L with
  | nil => simp [sumL, ofL]
  | cons x r ih =>
    have h1 := h x (by simp)
    have h2 := ih fun y hy => h y (by simp [hy])
    have h3 := sumL_nonneg (L := r) fun y hy => h y (by simp [hy])
    simp only [sumL, ofL]; split <;> omega
theorem Inv.with {all share : Int} {L : List Ln} (h : Inv all share L) {k : ByteArray} {n : Int} (hk : k.size ≤ 200) (h0 : 0 ≤ n) (h1 : n ≤ share) (h2 : sumL L - ofL L k + n ≤ all) : Inv all share (withL L k n) := by
  refine ⟨?_, ?_, by rw [sumL_with _ _ _ h.nodup]; exact h2, h.share0, h.share1, h.all1⟩
  · unfold withL
    split
    · rw [names_set]; exact h.nodup
    · rename_i hk
      rw [List.map_append]
      have : k ∉ L.map (·.1) := fun e => hk ((hasL_iff _ _).2 e)
      refine List.nodup_append.2 ⟨h.nodup, by simp, ?_⟩
      rintro a ha b hb rfl
      simp at hb
      exact this (hb ▸ ha)
  · intro x hx
    unfold withL at hx
    split at hx
    · obtain ⟨y, hy, rfl⟩ := List.mem_map.1 hx
      by_cases e : y.1 = k
      · simp only [e, ↓reduceIte]; exact ⟨h0, h1, hk⟩
      · simp only [e, ↓reduceIte]; exact h.rng y hy
    · rcases List.mem_append.1 hx with hx | hx
      · exact h.rng x hx
      · simp at hx; subst hx; exact ⟨h0, h1, hk⟩

/-- may a number be? -/
def okN (n : Int) : Bool := decide (0 ≤ n) && decide (n ≤ 1125899906842624)
/-- may these be asked? -/
def okQ (t : ByteArray) (n : Int) : Bool := decide (t.size ≤ 200) && okN n
def addE (all share : Int) (L : List Ln) (t : ByteArray) (n : Int) : Int :=
  if okQ t n = false then 1 else if n > share - ofL L t ∨ n > all - sumL L then 5 else 0
def addL (all share : Int) (L : List Ln) (t : ByteArray) (n : Int) : List Ln := if addE all share L t n = 0 then withL L t (ofL L t + n) else L
def lessE (L : List Ln) (t : ByteArray) (n : Int) : Int :=
  if okQ t n = false then 1 else if n > ofL L t then 4 else 0
def lessL (L : List Ln) (t : ByteArray) (n : Int) : List Ln := if lessE L t n = 0 then withL L t (ofL L t - n) else L

def overOwn (share : Int) (L : List Ln) (t : ByteArray) (n : Int) : Int := if ofL L t + n - share < 0 then 0 else ofL L t + n - share
def overAny (all share : Int) (L : List Ln) (t : ByteArray) (n : Int) : Int := if sumL L - overOwn share L t n + n - all < 0 then 0 else sumL L - overOwn share L t n + n - all
def overR (all share : Int) (L : List Ln) (t : ByteArray) (n : Int) : Int × Int × Int :=
  if okQ t n = false then (0, 0, 1) else if n > share then (0, 0, 4) else (overOwn share L t n, overAny all share L t n, 0)
theorem okN_iff (n : Int) : okN n = true ↔ 0 ≤ n ∧ n ≤ 1125899906842624 := by simp [okN]
theorem okQ_iff (t : ByteArray) (n : Int) : okQ t n = true ↔ t.size ≤ 200 ∧ 0 ≤ n ∧ n ≤ 1125899906842624 := by simp [okQ, okN]
theorem Inv.add {all share : Int} {L : List Ln} (h : Inv all share L) (t : ByteArray) (n : Int) : Inv all share (addL all share L t n) := by
  unfold addL
  split
  · rename_i he
    unfold addE at he
    split at he
    · cases he
    · rename_i hq
      have hq' := (okQ_iff t n).1 (by simpa using hq)
      split at he
      · cases he
      · rename_i hn
        have := ofL_rng h t
        exact h.with hq'.1 (by omega) (by omega) (by omega)
  · exact h
theorem Inv.less {all share : Int} {L : List Ln} (h : Inv all share L) (t : ByteArray) (n : Int) : Inv all share (lessL L t n) := by
  unfold lessL
  split
  · rename_i he
    unfold lessE at he
    split at he
    · cases he
    · rename_i hq
      have hq' := (okQ_iff t n).1 (by simpa using hq)
      split at he
      · cases he
      · rename_i hn
        have := ofL_rng h t
        have := h.sum
        exact h.with hq'.1 (by omega) (by omega) (by omega)
  · exact h

end Go.Proofs.Yteadclkpoikobaa
