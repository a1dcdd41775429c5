/- The reference's way to list who has bytes: plain laws. Conditions: none. -/
import Derived.Test.YteadclkpoikobaaPt
import Derived.Sort.Walk0
namespace Go.Proofs.Yteadclkpoikobaa
open Go.RowKit Go.Maps Go.Sort

def gtS (a b : ByteArray) : Bool := !(Op.bytesLess a.toList b.toList || a.toList == b.toList)
def insS (t : ByteArray) (r : Bool × List ByteArray) (o : ByteArray) : Bool × List ByteArray := if (!r.1 && gtS o t) = true then (true, r.2 ++ [t] ++ [o]) else (r.1, r.2 ++ [o])
def insF (t : ByteArray) (out : List ByteArray) : Bool × List ByteArray := out.foldl (insS t) (false, [])
def ins (t : ByteArray) (out : List ByteArray) : List ByteArray := if (insF t out).1 = true then (insF t out).2 else (insF t out).2 ++ [t]
def tenS (out : List ByteArray) (x : Ln) : List ByteArray := if x.2 = 0 then out else ins x.1 out
def tenF (L : List Ln) : List ByteArray := L.foldl tenS []

theorem insF_succ (t : ByteArray) (out : List ByteArray) (k : Nat) (h : k < out.length) : insF t (out.take (k + 1)) = insS t (insF t (out.take k)) out[k] := by
  unfold insF; rw [List.take_succ_eq_append_getElem h, List.foldl_append]; rfl
theorem tenF_succ (L : List Ln) (k : Nat) (h : k < L.length) : tenF (L.take (k + 1)) = tenS (tenF (L.take k)) L[k] := by
  unfold tenF; rw [List.take_succ_eq_append_getElem h, List.foldl_append]; rfl

theorem gtS_iff (a b : ByteArray) : gtS a b = true ↔ b.data.toList < a.data.toList := by
  unfold gtS
  rw [bytesLess_eq, ByteArray.toList_eq, ByteArray.toList_eq]
  simp only [Bool.not_eq_true', Bool.or_eq_false_iff, decide_eq_false_iff_not, beq_eq_false_iff_ne]
  constructor
  · rintro ⟨h1, h2⟩
    by_cases h : b.data.toList < a.data.toList
    · exact h
    · exact absurd (List.le_antisymm (List.not_lt.1 h) (List.not_lt.1 h1)) h2
  · intro h
    exact ⟨fun h' => List.lt_irrefl _ (List.lt_trans h h'), fun e => by rw [e] at h; exact List.lt_irrefl _ h⟩
theorem ins_true (t : ByteArray) (l out : List ByteArray) : out.foldl (insS t) (true, l) = (true, l ++ out) := by
  induction out generalizing l with
  | nil => simp
  | cons o r ih =>
    rw [List.foldl_cons]
    have : insS t (true, l) o = (true, l ++ [o]) := by simp [insS]
    rw [this, ih]; simp
theorem ins_false (t : ByteArray) (l out : List ByteArray) : out.foldl (insS t) (false, l) = if out.any (gtS · t) = true then (true, l ++ (out.takeWhile (fun o => !gtS o t) ++ t :: out.dropWhile (fun o => !gtS o t))) else (false, l ++ out) := by
  induction out generalizing l with
  | nil => simp
  | cons o r ih =>
    rw [List.foldl_cons]
    by_cases h : gtS o t = true
    · have : insS t (false, l) o = (true, l ++ [t] ++ [o]) := by simp [insS, h]
      rw [this, ins_true]; simp [h]
    · have h' : gtS o t = false := by simpa using h
      have : insS t (false, l) o = (false, l ++ [o]) := by simp [insS, h']
      rw [this, ih]
      simp only [List.any_cons, h', Bool.false_or, List.takeWhile_cons, List.dropWhile_cons, Bool.not_false, ↓reduceIte, List.append_assoc, List.cons_append, List.nil_append]
theorem takeW_all {p : ByteArray → Bool} {l : List ByteArray} (h : ∀ o ∈ l, p o = true) : l.takeWhile p = l := by
  induction l with
  | nil => rfl
  | cons x r ih => rw [List.takeWhile_cons, if_pos (h x (by simp)), ih fun o ho => h o (by simp [ho])]
theorem dropW_all {p : ByteArray → Bool} {l : List ByteArray} (h : ∀ o ∈ l, p o = true) : l.dropWhile p = [] := by
  induction l with
  | nil => rfl
  | cons x r ih => rw [List.dropWhile_cons, if_pos (h x (by simp)), ih fun o ho => h o (by simp [ho])]
theorem takeW_mem {p : ByteArray → Bool} {l : List ByteArray} {o : ByteArray} (h : o ∈ l.takeWhile p) : p o = true := by
  induction l with
  | nil => cases h
  | cons x r ih =>
    rw [List.takeWhile_cons] at h
    split at h
    · rename_i hx
      rcases List.mem_cons.1 h with rfl | h
      · exact hx
      · exact ih h
    · cases h
theorem dropW_head {p : ByteArray → Bool} {l : List ByteArray} {x : ByteArray} {r : List ByteArray} (h : l.dropWhile p = x :: r) : p x = false := by
  induction l with
  | nil => cases h
  | cons y q ih =>
    rw [List.dropWhile_cons] at h
    split at h
    · exact ih h
    · rename_i hy
      cases h
      simpa using hy
theorem ins_eq (t : ByteArray) (out : List ByteArray) : ins t out = out.takeWhile (fun o => !gtS o t) ++ t :: out.dropWhile (fun o => !gtS o t) := by
  unfold ins insF
  rw [ins_false]
  by_cases h : out.any (gtS · t) = true
  · simp [h]
  · have h' : ∀ o ∈ out, (!gtS o t) = true := fun o ho => by
      have := fun e => h (List.any_eq_true.2 ⟨o, ho, e⟩)
      simpa using this
    rw [if_neg h]
    have e1 : out.takeWhile (fun o => !gtS o t) = out := takeW_all h'
    have e2 : out.dropWhile (fun o => !gtS o t) = [] := dropW_all h'
    rw [e1, e2]; simp
theorem ins_perm (t : ByteArray) (out : List ByteArray) : (ins t out).Perm (t :: out) := by
  rw [ins_eq]
  refine List.perm_middle.trans ?_
  rw [List.takeWhile_append_dropWhile]
theorem ins_sorted {t : ByteArray} {out : List ByteArray} (h : out.Pairwise (fun a b => a.data.toList ≤ b.data.toList)) : (ins t out).Pairwise (fun a b => a.data.toList ≤ b.data.toList) := by
  rw [ins_eq]
  have hs := h
  rw [← List.takeWhile_append_dropWhile (p := fun o => !gtS o t) (l := out)] at hs
  obtain ⟨h1, h2, h3⟩ := List.pairwise_append.1 hs
  have ha : ∀ o ∈ out.takeWhile (fun o => !gtS o t), o.data.toList ≤ t.data.toList := fun o ho => by
    have := takeW_mem ho
    have hg : ¬ gtS o t = true := by simpa using this
    rw [gtS_iff] at hg
    exact List.not_lt.1 hg
  have hb : ∀ o ∈ out.dropWhile (fun o => !gtS o t), t.data.toList ≤ o.data.toList := by
    cases hd : out.dropWhile (fun o => !gtS o t) with
    | nil => simp
    | cons x r =>
      have hx : gtS x t = true := by
        have := dropW_head hd
        simpa using this
      rw [gtS_iff] at hx
      rw [hd] at h2
      intro o ho
      rcases List.mem_cons.1 ho with rfl | ho
      · exact List.le_of_lt hx
      · exact List.le_trans (List.le_of_lt hx) ((List.pairwise_cons.1 h2).1 o ho)
  refine List.pairwise_append.2 ⟨h1, List.pairwise_cons.2 ⟨hb, h2⟩, ?_⟩
  intro a ha' b hb'
  rcases List.mem_cons.1 hb' with rfl | hb'
  · exact ha a ha'
  · exact h3 a ha' b hb'

theorem tenF_ten {L : List Ln} (hnd : (L.map (·.1)).Nodup) : IsTen (tenF L) L := by
  suffices ∀ (M : List Ln) (out : List ByteArray), (M.map (·.1)).Nodup → out.Nodup → out.Pairwise (fun a b => a.data.toList ≤ b.data.toList) → (∀ x ∈ M, x.1 ∉ out) →
      (M.foldl tenS out).Nodup ∧ (M.foldl tenS out).Pairwise (fun a b => a.data.toList ≤ b.data.toList) ∧ ∀ k, k ∈ M.foldl tenS out ↔ k ∈ out ∨ ofL M k ≠ 0 from by
    obtain ⟨h1, h2, h3⟩ := this L [] hnd (by simp) (by simp) (by simp)
    exact ⟨h1, h2, fun k => by have := h3 k; simpa [tenF] using this⟩
  intro M
  induction M with
  | nil => intro out _ h1 h2 _; exact ⟨h1, h2, fun k => by simp [ofL]⟩
  | cons x r ih =>
    intro out hn h1 h2 h3
    rw [List.map_cons, List.nodup_cons] at hn
    rw [List.foldl_cons]
    by_cases h0 : x.2 = 0
    · have e : tenS out x = out := by simp [tenS, h0]
      rw [e]
      obtain ⟨a, b, c⟩ := ih out hn.2 h1 h2 (fun y hy => h3 y (by simp [hy]))
      refine ⟨a, b, fun k => ?_⟩
      rw [c]
      by_cases hk : x.1 = k
      · have : ofL r k = 0 := ofL_none (hk ▸ hn.1)
        simp [ofL, hk, h0, this]
      · simp [ofL, hk]
    · have e : tenS out x = ins x.1 out := by simp [tenS, h0]
      rw [e]
      have hp := ins_perm x.1 out
      have hx := h3 x (by simp)
      obtain ⟨a, b, c⟩ := ih (ins x.1 out) hn.2 (hp.nodup_iff.2 (List.nodup_cons.2 ⟨hx, h1⟩)) (ins_sorted h2) (fun y hy hm => by
        rcases List.mem_cons.1 (hp.mem_iff.1 hm) with e | hm
        · exact hn.1 (e ▸ List.mem_map.2 ⟨y, hy, rfl⟩)
        · exact h3 y (by simp [hy]) hm)
      refine ⟨a, b, fun k => ?_⟩
      rw [c, hp.mem_iff, List.mem_cons]
      by_cases hk : x.1 = k
      · subst hk; simp [ofL, h0]
      · have : ¬ k = x.1 := fun e => hk e.symm
        simp [ofL, hk, this]
end Go.Proofs.Yteadclkpoikobaa
