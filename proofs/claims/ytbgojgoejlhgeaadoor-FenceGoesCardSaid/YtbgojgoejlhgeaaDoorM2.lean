/- What a set has that another one hasn't: ranges' Less, as plain lists. Conditions: both lists rise; few spans. -/
import Derived.Test.YtbgojgoejlhgeaaDoorM1
namespace Go.Proofs.YtbgojgoejlhgeaaDoor.Pr
open Go.RowKit Go.Proofs.YtbgojgoejlhgeaaDoorW.PrintWords

/-- what of [a, b) is in no span of T -/
def cut (b : Int) : List S42 → Int → List S42
  | [], a => if a < b then [⟨a, b⟩] else []
  | t :: T, a => if t.f0 < b then (if t.f0 > a then [⟨a, t.f0⟩] else []) ++ cut b T (min t.f1 b) else if a < b then [⟨a, b⟩] else []
def inS (s : S42) (x : Int) : Prop := s.f0 ≤ x ∧ x < s.f1
theorem cut_spec (b : Int) (hb : b ≤ 4611686018427387904) (T : List S42) : ∀ a : Int, 0 ≤ a → a ≤ b → Norm T → (∀ t ∈ T, a < t.f1) →
    Norm (cut b T a) ∧ (∀ s ∈ cut b T a, a ≤ s.f0 ∧ s.f1 ≤ b) ∧ (∀ x, memS (cut b T a) x ↔ (a ≤ x ∧ x < b) ∧ ¬ memS T x) ∧ (cut b T a).length ≤ T.length + 1 := by
  have last : ∀ a : Int, 0 ≤ a → a ≤ b → Norm (if a < b then [(⟨a, b⟩ : S42)] else []) ∧ (∀ s ∈ (if a < b then [(⟨a, b⟩ : S42)] else []), a ≤ s.f0 ∧ s.f1 ≤ b) ∧ (∀ x, memS (if a < b then [(⟨a, b⟩ : S42)] else []) x ↔ (a ≤ x ∧ x < b)) ∧ (if a < b then [(⟨a, b⟩ : S42)] else []).length ≤ 1 := by
    intro a h0 h1
    by_cases h : a < b
    · simp only [if_pos h]
      refine ⟨by simpa using Norm.nil.snoc (s := ⟨a, b⟩) ⟨h0, h, hb⟩ (by simp), by simp, fun x => ?_, by simp⟩
      rw [memS_one]; unfold okS; simp only; omega
    · simp only [if_neg h]
      refine ⟨Norm.nil, by simp, fun x => ?_, by simp⟩
      have := memS_nil x
      simp only [this, false_iff]; omega
  induction T with
  | nil =>
    intro a h0 h1 _ _
    obtain ⟨g1, g2, g3, g4⟩ := last a h0 h1
    simp only [cut]
    exact ⟨g1, g2, fun x => by rw [g3]; simp [memS_nil], by simpa using g4⟩
  | cons t T ih =>
    intro a h0 h1 hn ha
    simp only [cut]
    have hh := hn.head
    unfold ok2 at hh
    have hta := ha t (by simp)
    by_cases hc : t.f0 < b
    · rw [if_pos hc]
      obtain ⟨g1, g2, g3, g4⟩ := ih (min t.f1 b) (by omega) (by omega) hn.tail (fun u hu => by have := hn.gap hu; have := (hn.ok u (by simp [hu])).2.1; omega)
      have mem : ∀ x, memS (cut b T (min t.f1 b)) x ↔ (t.f1 ≤ x ∧ x < b) ∧ ¬ memS (t :: T) x := by
        intro x
        rw [g3, memS_cons]
        unfold okS
        constructor
        · rintro ⟨h2, h3⟩
          refine ⟨by omega, ?_⟩
          rintro (h4 | h4)
          · omega
          · exact h3 h4
        · rintro ⟨h2, h3⟩
          exact ⟨by omega, fun h4 => h3 (.inr h4)⟩
      by_cases hd : t.f0 > a
      · rw [if_pos hd]
        refine ⟨⟨fun s hs => ?_, ?_⟩, fun s hs => ?_, fun x => ?_, by simp; omega⟩
        · rcases List.mem_append.1 hs with hs | hs
          · simp at hs; subst hs; exact ⟨h0, hd, by simp only; omega⟩
          · exact g1.ok s hs
        · refine List.pairwise_append.2 ⟨by simp, g1.up, ?_⟩
          intro u hu v hv
          simp at hu; subst hu
          have := (g2 v hv).1
          simp only; omega
        · rcases List.mem_append.1 hs with hs | hs
          · simp at hs; subst hs; simp only; omega
          · have := g2 s hs; omega
        · rw [memS_append, memS_one, mem]
          unfold okS
          simp only
          constructor
          · rintro (h2 | h2)
            · refine ⟨by omega, fun h3 => ?_⟩
              have := hn.first h3
              omega
            · exact ⟨by omega, h2.2⟩
          · rintro ⟨h2, h3⟩
            by_cases hx : x < t.f0
            · exact .inl ⟨by omega, by omega, hx⟩
            · refine .inr ⟨⟨?_, h2.2⟩, h3⟩
              refine Int.not_lt.1 fun hlt => h3 ?_
              rw [memS_cons]; exact .inl ⟨hn.head.okS, by omega, hlt⟩
      · rw [if_neg hd]
        refine ⟨by simpa using g1, fun s hs => ?_, fun x => ?_, by simp; omega⟩
        · have := g2 s (by simpa using hs); omega
        · rw [List.nil_append, mem]
          constructor
          · rintro ⟨h2, h3⟩; exact ⟨by omega, h3⟩
          · rintro ⟨h2, h3⟩
            refine ⟨⟨?_, h2.2⟩, h3⟩
            refine Int.not_lt.1 fun hlt => h3 ?_
            rw [memS_cons]; exact .inl ⟨hn.head.okS, by omega, hlt⟩
    · rw [if_neg hc]
      obtain ⟨g1, g2, g3, g4⟩ := last a h0 h1
      refine ⟨g1, g2, fun x => ?_, by simp; omega⟩
      rw [g3]
      constructor
      · intro h2
        exact ⟨h2, fun h3 => by have := hn.first h3; omega⟩
      · intro h2; exact h2.1

/-- all of it -/
def lessL (T L : List S42) : List S42 := L.flatMap fun s => cut s.f1 (T.dropWhile fun t => decide (t.f1 ≤ s.f0)) s.f0
theorem drop_spec {T : List S42} (hT : Norm T) (a : Int) : Norm (T.dropWhile fun t => decide (t.f1 ≤ a)) ∧ (∀ t ∈ T.dropWhile (fun t => decide (t.f1 ≤ a)), a < t.f1) ∧ ∀ x, a ≤ x → (memS (T.dropWhile fun t => decide (t.f1 ≤ a)) x ↔ memS T x) := by
  induction T with
  | nil => exact ⟨Norm.nil, by simp, by simp⟩
  | cons t T ih =>
    rw [List.dropWhile_cons]
    by_cases h : t.f1 ≤ a
    · rw [if_pos (by simpa using h)]
      obtain ⟨h1, h2, h3⟩ := ih hT.tail
      refine ⟨h1, h2, fun x hx => ?_⟩
      rw [h3 x hx, memS_cons]
      constructor
      · exact .inr
      · rintro (h4 | h4)
        · omega
        · exact h4
    · rw [if_neg (by simpa using h)]
      refine ⟨hT, fun u hu => ?_, fun x _ => Iff.rfl⟩
      rcases List.mem_cons.1 hu with rfl | hu
      · omega
      · have := hT.gap hu; have := (hT.ok u (by simp [hu])).2.1; omega
theorem lessL_spec {T L : List S42} (hT : Norm T) (hL : Norm L) :
    Norm (lessL T L) ∧ (∀ s ∈ lessL T L, ∃ u ∈ L, u.f0 ≤ s.f0 ∧ s.f1 ≤ u.f1) ∧ (∀ x, memS (lessL T L) x ↔ memS L x ∧ ¬ memS T x) ∧ (lessL T L).length ≤ L.length * (T.length + 1) := by
  induction L with
  | nil => exact ⟨Norm.nil, by simp [lessL], by simp [lessL, memS_nil], by simp [lessL]⟩
  | cons s L ih =>
    obtain ⟨h1, h2, h3, h4⟩ := ih hL.tail
    obtain ⟨d1, d2, d3⟩ := drop_spec hT s.f0
    have hs := hL.head
    unfold ok2 at hs
    obtain ⟨c1, c2, c3, c4⟩ := cut_spec s.f1 hs.2.2 (T.dropWhile fun t => decide (t.f1 ≤ s.f0)) s.f0 hs.1 (by omega) d1 d2
    have e : lessL T (s :: L) = cut s.f1 (T.dropWhile fun t => decide (t.f1 ≤ s.f0)) s.f0 ++ lessL T L := by simp [lessL]
    rw [e]
    refine ⟨⟨fun u hu => ?_, ?_⟩, fun u hu => ?_, fun x => ?_, ?_⟩
    · rcases List.mem_append.1 hu with hu | hu
      · exact c1.ok u hu
      · exact h1.ok u hu
    · refine List.pairwise_append.2 ⟨c1.up, h1.up, ?_⟩
      intro u hu v hv
      have := (c2 u hu).2
      obtain ⟨z, hz, hz1, _⟩ := h2 v hv
      have := hL.gap hz
      omega
    · rcases List.mem_append.1 hu with hu | hu
      · exact ⟨s, by simp, c2 u hu⟩
      · obtain ⟨z, hz, hz1⟩ := h2 u hu
        exact ⟨z, by simp [hz], hz1⟩
    · rw [memS_append, c3, h3, memS_cons]
      have : okS s := hL.head.okS
      constructor
      · rintro (⟨h5, h6⟩ | ⟨h5, h6⟩)
        · exact ⟨.inl ⟨this, h5⟩, fun h7 => h6 ((d3 x h5.1).2 h7)⟩
        · exact ⟨.inr h5, h6⟩
      · rintro ⟨h5 | h5, h6⟩
        · exact .inl ⟨h5.2, fun h7 => h6 ((d3 x h5.2.1).1 h7)⟩
        · exact .inr ⟨h5, h6⟩
    · have hd := List.Sublist.length_le (List.dropWhile_sublist (l := T) (fun t => decide (t.f1 ≤ s.f0)))
      rw [List.length_append, List.length_cons, Nat.add_mul, Nat.one_mul]
      omega
end Go.Proofs.YtbgojgoejlhgeaaDoor.Pr
