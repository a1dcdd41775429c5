/- The reference's way to list which keys are held: plain laws. Conditions: none. -/
import Derived.Test.YtklnbfelcpnbeaaAl
namespace Go.Proofs.Ytklnbfelcpnbeaa
open Go.RowKit Go.Maps

def gtS (a b : Int) : Bool := decide (b < a)
theorem gt_iff (a b : Int) : gtS a b = true ↔ b < a := by simp [gtS]
def insS (t : Int) (r : Bool × List Int) (o : Int) : Bool × List Int := if (!r.1 && gtS o t) = true then (true, r.2 ++ [t] ++ [o]) else (r.1, r.2 ++ [o])
def insF (t : Int) (out : List Int) : Bool × List Int := out.foldl (insS t) (false, [])
def ins (t : Int) (out : List Int) : List Int := if (insF t out).1 = true then (insF t out).2 else (insF t out).2 ++ [t]
theorem insF_succ (t : Int) (out : List Int) (k : Nat) (h : k < out.length) : insF t (out.take (k + 1)) = insS t (insF t (out.take k)) out[k] := by
  unfold insF; rw [List.take_succ_eq_append_getElem h, List.foldl_append]; rfl
theorem ins_true (t : Int) (l out : List Int) : out.foldl (insS t) (true, l) = (true, l ++ out) := by
  induction out generalizing l with
  | nil => simp
  | cons o r ih =>
    rw [List.foldl_cons]
    have : insS t (true, l) o = (true, l ++ [o]) := by simp [insS]
    rw [this, ih]; simp
theorem ins_false (t : Int) (l out : List Int) : out.foldl (insS t) (false, l) = if out.any (gtS · t) = true then (true, l ++ (out.takeWhile (fun o => !gtS o t) ++ t :: out.dropWhile (fun o => !gtS o t))) else (false, l ++ out) := by
  induction out generalizing l with
  | nil => simp
  | cons o r ih =>
    rw [List.foldl_cons]
    by_cases h : gtS o t = true
    · have : insS t (false, l) o = (true, l ++ [t] ++ [o]) := by simp [insS, h]
      rw [this, ins_true]; simp [h]
    · have h' : gtS o t = false := by simpa using h
      have : insS t (false, l) o = (false, l ++ [o]) := by simp [insS, h']
      rw [this, ih]
      simp only [List.any_cons, h', Bool.false_or, List.takeWhile_cons, List.dropWhile_cons, Bool.not_false, ↓reduceIte, List.append_assoc, List.cons_append, List.nil_append]
theorem takeW_all {p : Int → Bool} {l : List Int} (h : ∀ o ∈ l, p o = true) : l.takeWhile p = l := by
  induction l with
  | nil => rfl
  | cons x r ih => rw [List.takeWhile_cons, if_pos (h x (by simp)), ih fun o ho => h o (by simp [ho])]
theorem dropW_all {p : Int → Bool} {l : List Int} (h : ∀ o ∈ l, p o = true) : l.dropWhile p = [] := by
  induction l with
  | nil => rfl
  | cons x r ih => rw [List.dropWhile_cons, if_pos (h x (by simp)), ih fun o ho => h o (by simp [ho])]
theorem takeW_mem {p : Int → Bool} {l : List Int} {o : Int} (h : o ∈ l.takeWhile p) : p o = true := by
  induction l with
  | nil => cases h
  | cons x r ih =>
    rw [List.takeWhile_cons] at h
    split at h
    · rename_i hx
      rcases List.mem_cons.1 h with rfl | h
      · exact hx
      · exact ih h
    · cases h
theorem dropW_head {p : Int → Bool} {l : List Int} {x : Int} {r : List Int} (h : l.dropWhile p = x :: r) : p x = false := by
  induction l with
  | nil => cases h
  | cons y q ih =>
    rw [List.dropWhile_cons] at h
    split at h
    · exact ih h
    · rename_i hy
      cases h
      simpa using hy
theorem ins_eq (t : Int) (out : List Int) : ins t out = out.takeWhile (fun o => !gtS o t) ++ t :: out.dropWhile (fun o => !gtS o t) := by
  unfold ins insF
  rw [ins_false]
  by_cases h : out.any (gtS · t) = true
  · simp [h]
  · have h' : ∀ o ∈ out, (!gtS o t) = true := fun o ho => by
      have := fun e => h (List.any_eq_true.2 ⟨o, ho, e⟩)
      simpa using this
    rw [if_neg h]
    have e1 : out.takeWhile (fun o => !gtS o t) = out := takeW_all h'
    have e2 : out.dropWhile (fun o => !gtS o t) = [] := dropW_all h'
    rw [e1, e2]; simp
theorem ins_perm (t : Int) (out : List Int) : (ins t out).Perm (t :: out) := by
  rw [ins_eq]
  refine List.perm_middle.trans ?_
  rw [List.takeWhile_append_dropWhile]
theorem ins_sorted {t : Int} {out : List Int} (h : out.Pairwise (fun a b => a ≤ b)) : (ins t out).Pairwise (fun a b => a ≤ b) := by
  rw [ins_eq]
  have hs := h
  rw [← List.takeWhile_append_dropWhile (p := fun o => !gtS o t) (l := out)] at hs
  obtain ⟨h1, h2, h3⟩ := List.pairwise_append.1 hs
  have ha : ∀ o ∈ out.takeWhile (fun o => !gtS o t), o ≤ t := fun o ho => by
    have := takeW_mem ho
    have hg : ¬ gtS o t = true := by simpa using this
    rw [gt_iff] at hg
    exact Int.not_lt.1 hg
  have hb : ∀ o ∈ out.dropWhile (fun o => !gtS o t), t ≤ o := by
    cases hd : out.dropWhile (fun o => !gtS o t) with
    | nil => simp
    | cons x r =>
      have hx : gtS x t = true := by
        have := dropW_head hd
        simpa using this
      rw [gt_iff] at hx
      rw [hd] at h2
      intro o ho
      rcases List.mem_cons.1 ho with rfl | ho
      · exact Int.le_of_lt hx
      · exact Int.le_trans (Int.le_of_lt hx) ((List.pairwise_cons.1 h2).1 o ho)
  refine List.pairwise_append.2 ⟨h1, List.pairwise_cons.2 ⟨hb, h2⟩, ?_⟩
  intro a ha' b hb'
  rcases List.mem_cons.1 hb' with rfl | hb'
  · exact ha a ha'
  · exact h3 a ha' b hb'


def allS (out : List Int) (h : Ho) : List Int := if h.2.2 = true ∨ h.2.1 ∈ out then out else ins h.2.1 out
def allF (H : List Ho) : List Int := H.foldl allS []
theorem allF_succ (H : List Ho) (k : Nat) (h : k < H.length) : allF (H.take (k + 1)) = allS (allF (H.take k)) H[k] := by
  unfold allF; rw [List.take_succ_eq_append_getElem h, List.foldl_append]; rfl
theorem allF_all (H : List Ho) : IsAll (fun n => cnt n H) (allF H) := by
  suffices ∀ k, k ≤ H.length → IsAll (fun n => cnt n (H.take k)) (allF (H.take k)) from by
    have := this H.length (Nat.le_refl _)
    rwa [List.take_length] at this
  intro k
  induction k with
  | zero => intro _; exact ⟨by simp [allF], by simp [allF], fun n => by simp [allF, cnt]⟩
  | succ k ih =>
    intro hk
    obtain ⟨h1, h2, h3⟩ := ih (by omega)
    rw [allF_succ H k hk]
    have hc : ∀ n, cnt n (H.take (k + 1)) = cnt n (H.take k) + (if H[k].2.1 = n ∧ H[k].2.2 = false then 1 else 0) := fun n => by
      rw [List.take_succ_eq_append_getElem hk, cnt_append]; simp [cnt]
    unfold allS
    by_cases hf : H[k].2.2 = true
    · rw [if_pos (.inl hf)]
      refine ⟨h1, h2, fun n => ?_⟩
      show _ ↔ 0 < cnt n (H.take (k + 1))
      rw [hc, if_neg (fun h => by rw [hf] at h; cases h.2), h3]; simp
    · have hf' : H[k].2.2 = false := by simpa using hf
      by_cases hm : H[k].2.1 ∈ allF (H.take k)
      · rw [if_pos (.inr hm)]
        refine ⟨h1, h2, fun n => ?_⟩
        show _ ↔ 0 < cnt n (H.take (k + 1))
        rw [hc, h3]
        by_cases e : H[k].2.1 = n
        · subst e
          have := (h3 _).1 hm
          simp only [true_and, hf', ↓reduceIte]
          constructor <;> intro _ <;> omega
        · rw [if_neg (fun h => e h.1)]; simp
      · rw [if_neg (by rintro (h | h); exact hf h; exact hm h)]
        have hp := ins_perm H[k].2.1 (allF (H.take k))
        refine ⟨hp.nodup_iff.2 (List.nodup_cons.2 ⟨hm, h1⟩), ins_sorted h2, fun n => ?_⟩
        show _ ↔ 0 < cnt n (H.take (k + 1))
        rw [hp.mem_iff, List.mem_cons, hc, h3]
        have := cnt_nonneg n (H.take k)
        by_cases e : H[k].2.1 = n
        · subst e; simp [hf']; omega
        · have e' : ¬ n = H[k].2.1 := fun h => e h.symm
          rw [if_neg (fun h => e h.1)]; simp [e']
end Go.Proofs.Ytklnbfelcpnbeaa
