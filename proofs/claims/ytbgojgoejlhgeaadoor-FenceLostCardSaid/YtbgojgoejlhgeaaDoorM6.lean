/- What the program's and the document's answers on a state come to: one plain function. Conditions: the sets rise; few spans. -/
import Derived.Test.YtbgojgoejlhgeaaDoorM5
import Derived.Test.YtbgojgoejlhgeaaDoorG7
namespace Go.Proofs.YtbgojgoejlhgeaaDoor.Pr
open Go.RowKit Go.Proofs.YtbgojgoejlhgeaaDoorW.PrintWords Go.Proofs.YtbgojgoejlhgeaaDoorW.PrintMore

theorem of_f (a b : List S42) (op : Int) (ha : a.length < 50000) (hb : b.length < 50000) (hop : op = 1 ∨ op = 2 ∨ op = 3) :
    ∃ r, Ev (fun k => r02_of.f k a b op) r ∧ Norm r ∧ ∀ z, memS r z ↔ selB op (decide (memS a z)) (decide (memS b z)) = true := by
  obtain ⟨s1, s2, s3⟩ := endsP_spec (a ++ b) [] List.Pairwise.nil
  have he := ends_ev a b (by omega)
  have hlen : (endsP [] (a ++ b)).length < 1000000 := by simp at s3; omega
  have ho := of_ev a b op (by omega) (by omega) (endsP [] (a ++ b)) hlen hop
  refine ⟨_, Ev.bind he (f := fun k t => r02_of.l0 k a b op [] t 0) ho, ?_⟩
  have hin : ∀ s, s ∈ a ∨ s ∈ b → okS s → s.f0 ∈ endsP [] (a ++ b) ∧ s.f1 ∈ endsP [] (a ++ b) := fun s hs hk =>
    ⟨(s2 _).2 (.inr ⟨s, List.mem_append.2 hs, hk, .inl rfl⟩), (s2 _).2 (.inr ⟨s, List.mem_append.2 hs, hk, .inr rfl⟩)⟩
  have hout : ∀ x ∈ endsP [] (a ++ b), 0 ≤ x ∧ x ≤ 4611686018427387904 := by
    intro x hx
    rcases (s2 x).1 hx with h | ⟨s, _, hk, h⟩
    · cases h
    · unfold okS at hk; rcases h with rfl | rfl <;> omega
  have sel0 : selB op false false = false := by rcases hop with rfl | rfl | rfl <;> rfl
  generalize endsP [] (a ++ b) = e at *
  cases e with
  | nil =>
    have none : ∀ z, ¬ memS a z ∧ ¬ memS b z := fun z => ⟨by rintro ⟨s, hs, hk, _⟩; exact absurd (hin s (.inl hs) hk).1 (by simp), by rintro ⟨s, hs, hk, _⟩; exact absurd (hin s (.inr hs) hk).1 (by simp)⟩
    refine ⟨by simpa [ofW] using Norm.nil, fun z => ?_⟩
    rw [decide_eq_false (none z).1, decide_eq_false (none z).2, sel0]
    simp [ofW, memS_nil]
  | cons x l =>
    have hx := (List.pairwise_cons.1 s1).1
    have low : ∀ z, z < x → ∀ q, (q = a ∨ q = b) → ¬ memS q z := by
      rintro z hz q hq ⟨s, hs, hk, h1, _⟩
      have hm := (hin s (by rcases hq with rfl | rfl; exact .inl hs; exact .inr hs) hk).1
      rcases List.mem_cons.1 hm with h | h
      · omega
      · have := hx _ h; omega
    have last : ∀ y ∈ x :: l, y ≤ (x :: l).getLast (by simp) := by
      intro y hy
      obtain ⟨i, hi, rfl⟩ := List.mem_iff_getElem.1 hy
      rw [List.getLast_eq_getElem]
      rcases Nat.lt_or_ge i ((x :: l).length - 1) with h | h
      · exact Int.le_of_lt (List.pairwise_iff_getElem.1 s1 i _ hi (by simp) h)
      · have : i = (x :: l).length - 1 := by omega
        subst this; exact Int.le_refl _
    have high : ∀ z, (x :: l).getLast (by simp) ≤ z → ∀ q, (q = a ∨ q = b) → ¬ memS q z := by
      rintro z hz q hq ⟨s, hs, hk, _, h2⟩
      have hm := (hin s (by rcases hq with rfl | rfl; exact .inl hs; exact .inr hs) hk).2
      have := last _ hm; omega
    have mid : ∀ u v : Int, ∀ p s : List Int, x :: l = p ++ u :: v :: s → ∀ z, u ≤ z → z < v → ∀ q, (q = a ∨ q = b) → (memS q z ↔ memS q u) := by
      intro u v p s he z hz1 hz2 q hq
      rw [he] at s1
      obtain ⟨p1, p2, p3⟩ := List.pairwise_append.1 s1
      obtain ⟨p4, p5⟩ := List.pairwise_cons.1 p2
      obtain ⟨p6, _⟩ := List.pairwise_cons.1 p5
      have sep : ∀ y ∈ x :: l, y ≤ u ∨ v ≤ y := by
        intro y hy
        rw [he] at hy
        rcases List.mem_append.1 hy with hy | hy
        · exact .inl (Int.le_of_lt (p3 y hy u (by simp)))
        · rcases List.mem_cons.1 hy with rfl | hy
          · exact .inl (Int.le_refl _)
          · rcases List.mem_cons.1 hy with rfl | hy
            · exact .inr (Int.le_refl _)
            · exact .inr (Int.le_of_lt (p6 y hy))
      constructor
      · rintro ⟨t, ht, hk, h1, h2⟩
        have hm := hin t (by rcases hq with rfl | rfl; exact .inl ht; exact .inr ht) hk
        refine ⟨t, ht, hk, ?_, by omega⟩
        rcases sep _ hm.1 with h | h <;> omega
      · rintro ⟨t, ht, hk, h1, h2⟩
        have hm := hin t (by rcases hq with rfl | rfl; exact .inl ht; exact .inr ht) hk
        refine ⟨t, ht, hk, by omega, ?_⟩
        rcases sep _ hm.2 with h | h <;> omega
    obtain ⟨w1, w2, w3⟩ := ofW_spec (fun x => selB op (decide (memS a x)) (decide (memS b x))) (fun z => selB op (decide (memS a z)) (decide (memS b z)) = true) l x [] s1 hout
      (fun u v p s he z h1 h2 => by rw [show decide (memS a z) = decide (memS a u) from decide_eq_decide.2 (mid u v p s he z h1 h2 a (.inl rfl)), show decide (memS b z) = decide (memS b u) from decide_eq_decide.2 (mid u v p s he z h1 h2 b (.inr rfl))])
      Norm.nil (by simp) (fun z hz => by rw [decide_eq_false (low z hz a (.inl rfl)), decide_eq_false (low z hz b (.inr rfl)), sel0]; simp [memS_nil])
    refine ⟨w1, fun z => ?_⟩
    rcases Int.lt_or_le z ((x :: l).getLast (by simp)) with h | h
    · exact w3 z h
    · rw [decide_eq_false (high z h a (.inl rfl)), decide_eq_false (high z h b (.inr rfl)), sel0]
      refine ⟨fun hm => ?_, fun hc => by cases hc⟩
      obtain ⟨t, ht, _, _, h2⟩ := hm
      have := w2 t ht; omega

theorem refOf_f (l : List S42) (hl : l.length < 50000) : Ev (fun k => r02_Of.f k l) (ofL l) := by
  obtain ⟨r, h1, h2, h3⟩ := of_f l [] 1 hl (by simp) (.inl rfl)
  obtain ⟨g1, g2, _⟩ := ofL_spec l
  have : r = ofL l := h2.uniq g1 fun z => by rw [h3, g2]; simp [selB, memS_nil]
  subst this
  exact Ev.bind h1 (f := fun _ t => some t) (Ev.now _)
theorem refLess_f (a b : List S42) (ha : Norm a) (hb : Norm b) (h1 : a.length < 50000) (h2 : b.length < 50000) : Ev (fun k => r02_Less.f k a b) (lessL b a) := by
  obtain ⟨r, g1, g2, g3⟩ := of_f a b 3 h1 h2 (.inr (.inr rfl))
  obtain ⟨k1, _, k3, _⟩ := lessL_spec hb ha
  have : r = lessL b a := g2.uniq k1 fun z => by rw [g3, k3]; by_cases p : memS a z <;> by_cases q : memS b z <;> simp [selB, p, q]
  subst this
  exact Ev.bind g1 (f := fun _ t => some t) (Ev.now _)

end Go.Proofs.YtbgojgoejlhgeaaDoor.Pr
