/- Sets of bytes as lists of spans: the lists that rise, and are apart, are told by their bytes. Conditions: none. -/
import Derived.Test.YtbgojgoejlhgeaaDoorG0
namespace Go.Proofs.YtbgojgoejlhgeaaDoor.Pr
open Go.RowKit

/-- a span that is right -/
def okS (s : S42) : Prop := 0 ≤ s.f0 ∧ s.f0 ≤ s.f1 ∧ s.f1 ≤ 4611686018427387904
/-- and has bytes -/
def ok2 (s : S42) : Prop := 0 ≤ s.f0 ∧ s.f0 < s.f1 ∧ s.f1 ≤ 4611686018427387904
instance (s : S42) : Decidable (okS s) := by unfold okS; exact inferInstance
instance (s : S42) : Decidable (ok2 s) := by unfold ok2; exact inferInstance
/-- is a byte in one of the right spans? -/
def memS (l : List S42) (x : Int) : Prop := ∃ s ∈ l, okS s ∧ s.f0 ≤ x ∧ x < s.f1
/-- rising, none empty, none meets or touches the next one -/
structure Norm (l : List S42) : Prop where
  ok : ∀ s ∈ l, ok2 s
  up : l.Pairwise (fun a b => a.f1 < b.f0)

theorem memS_nil (x : Int) : ¬ memS [] x := by rintro ⟨s, hs, _⟩; cases hs
theorem memS_cons (s : S42) (l : List S42) (x : Int) : memS (s :: l) x ↔ (okS s ∧ s.f0 ≤ x ∧ x < s.f1) ∨ memS l x := by
  unfold memS
  constructor
  · rintro ⟨t, ht, h⟩
    rcases List.mem_cons.1 ht with rfl | ht
    · exact .inl h
    · exact .inr ⟨t, ht, h⟩
  · rintro (h | ⟨t, ht, h⟩)
    · exact ⟨s, by simp, h⟩
    · exact ⟨t, by simp [ht], h⟩
theorem memS_append (a b : List S42) (x : Int) : memS (a ++ b) x ↔ memS a x ∨ memS b x := by
  induction a with
  | nil => simp [memS_nil]
  | cons s r ih => rw [List.cons_append, memS_cons, memS_cons, ih]; exact or_assoc.symm
theorem memS_one (s : S42) (x : Int) : memS [s] x ↔ okS s ∧ s.f0 ≤ x ∧ x < s.f1 := by rw [memS_cons]; simp [memS_nil]
theorem memS_perm {a b : List S42} (h : a.Perm b) (x : Int) : memS a x ↔ memS b x := by
  unfold memS
  constructor
  · rintro ⟨s, hs, r⟩; exact ⟨s, h.mem_iff.1 hs, r⟩
  · rintro ⟨s, hs, r⟩; exact ⟨s, h.mem_iff.2 hs, r⟩
theorem ok2.okS {s : S42} (h : ok2 s) : okS s := ⟨h.1, Int.le_of_lt h.2.1, h.2.2⟩
theorem Norm.nil : Norm [] := ⟨by simp, List.Pairwise.nil⟩
theorem Norm.tail {s : S42} {l : List S42} (h : Norm (s :: l)) : Norm l := ⟨fun t ht => h.ok t (by simp [ht]), (List.pairwise_cons.1 h.up).2⟩
theorem Norm.head {s : S42} {l : List S42} (h : Norm (s :: l)) : ok2 s := h.ok s (by simp)
theorem Norm.gap {s : S42} {l : List S42} (h : Norm (s :: l)) {t : S42} (ht : t ∈ l) : s.f1 < t.f0 := (List.pairwise_cons.1 h.up).1 t ht
theorem Norm.low {s : S42} {l : List S42} (h : Norm (s :: l)) {x : Int} (hx : memS l x) : s.f1 < x := by
  obtain ⟨t, ht, _, h1, _⟩ := hx
  have := h.gap ht
  omega
theorem Norm.mem_head {s : S42} {l : List S42} (h : Norm (s :: l)) : memS (s :: l) s.f0 := by
  rw [memS_cons]; exact .inl ⟨h.head.okS, Int.le_refl _, h.head.2.1⟩
theorem Norm.first {s : S42} {l : List S42} (h : Norm (s :: l)) {x : Int} (hx : memS (s :: l) x) : s.f0 ≤ x := by
  rw [memS_cons] at hx
  rcases hx with hx | hx
  · exact hx.2.1
  · have := h.low hx; have := h.head.2.1; omega
theorem Norm.uniq {a b : List S42} (ha : Norm a) (hb : Norm b) (h : ∀ x, memS a x ↔ memS b x) : a = b := by
  induction a generalizing b with
  | nil =>
    cases b with
    | nil => rfl
    | cons t q => exact absurd ((h t.f0).2 hb.mem_head) (memS_nil _)
  | cons s r ih =>
    cases b with
    | nil => exact absurd ((h s.f0).1 ha.mem_head) (memS_nil _)
    | cons t q =>
      have e0 : s.f0 = t.f0 := by
        have h1 := hb.first ((h s.f0).1 ha.mem_head)
        have h2 := ha.first ((h t.f0).2 hb.mem_head)
        omega
      have stop : ∀ {u : S42} {l : List S42}, Norm (u :: l) → ¬ memS (u :: l) u.f1 := by
        intro u l hu hm
        rw [memS_cons] at hm
        rcases hm with hm | hm
        · omega
        · have := hu.low hm; omega
      have e1 : s.f1 = t.f1 := by
        rcases Int.lt_trichotomy s.f1 t.f1 with hl | he | hl
        · exact absurd ((h s.f1).2 (by rw [memS_cons]; exact .inl ⟨hb.head.okS, by have := ha.head.2.1; omega, hl⟩)) (stop ha)
        · exact he
        · exact absurd ((h t.f1).1 (by rw [memS_cons]; exact .inl ⟨ha.head.okS, by have := hb.head.2.1; omega, hl⟩)) (stop hb)
      have es : s = t := by cases s; cases t; simp_all
      subst es
      congr 1
      refine ih ha.tail hb.tail fun x => ?_
      constructor
      · intro hx
        have hl := ha.low hx
        have := (h x).1 (by rw [memS_cons]; exact .inr hx)
        rw [memS_cons] at this
        rcases this with this | this
        · omega
        · exact this
      · intro hx
        have hl := hb.low hx
        have := (h x).2 (by rw [memS_cons]; exact .inr hx)
        rw [memS_cons] at this
        rcases this with this | this
        · omega
        · exact this

theorem pairwise_snoc {α : Type} {R : α → α → Prop} {l : List α} {x : α} (h : l.Pairwise R) (hx : ∀ y ∈ l, R y x) : (l ++ [x]).Pairwise R :=
  List.pairwise_append.2 ⟨h, by simp, by intro a ha b hb; simp at hb; subst hb; exact hx a ha⟩
/-- a span more, behind the others -/
theorem Norm.snoc {l : List S42} {s : S42} (h : Norm l) (hs : ok2 s) (hg : ∀ t ∈ l, t.f1 < s.f0) : Norm (l ++ [s]) :=
  ⟨fun t ht => by rcases List.mem_append.1 ht with ht | ht; exact h.ok t ht; simp at ht; subst ht; exact hs, pairwise_snoc h.up hg⟩
theorem Norm.init {l : List S42} {s : S42} (h : Norm (l ++ [s])) : Norm l ∧ ok2 s ∧ ∀ t ∈ l, t.f1 < s.f0 :=
  ⟨⟨fun t ht => h.ok t (by simp [ht]), (List.pairwise_append.1 h.up).1⟩, h.ok s (by simp), fun t ht => (List.pairwise_append.1 h.up).2.2 t ht s (by simp)⟩
/-- the last one is longer -/
theorem Norm.longer {l : List S42} {a b c : Int} (h : Norm (l ++ [⟨a, b⟩])) (hc : a < c) (hc' : c ≤ 4611686018427387904) : Norm (l ++ [⟨a, c⟩]) := by
  obtain ⟨h1, h2, h3⟩ := h.init
  exact h1.snoc ⟨h2.1, hc, hc'⟩ h3

/-- what Of does with the next span of those that rise -/
def mrgS (out : List S42) (s : S42) : List S42 :=
  match out.getLast? with
  | some t => if s.f0 ≤ t.f1 then out.dropLast ++ [⟨t.f0, max t.f1 s.f1⟩] else out ++ [s]
  | none => out ++ [s]
def mrg (l : List S42) : List S42 := l.foldl mrgS []
theorem mrg_snoc (l : List S42) (s : S42) : mrg (l ++ [s]) = mrgS (mrg l) s := by unfold mrg; rw [List.foldl_append]; rfl
theorem mrgS_nil (s : S42) : mrgS [] s = [s] := rfl
theorem mrgS_snoc (l : List S42) (t s : S42) : mrgS (l ++ [t]) s = if s.f0 ≤ t.f1 then l ++ [⟨t.f0, max t.f1 s.f1⟩] else l ++ [t] ++ [s] := by
  unfold mrgS; simp
theorem mrg_spec (l : List S42) (hok : ∀ s ∈ l, ok2 s) (hup : l.Pairwise (fun a b => a.f0 ≤ b.f0)) :
    Norm (mrg l) ∧ (∀ x, memS (mrg l) x ↔ memS l x) ∧ (mrg l).length ≤ l.length ∧ ∀ t, (mrg l).getLast? = some t → ∃ s ∈ l, t.f0 ≤ s.f0 := by
  suffices ∀ k, k ≤ l.length → (Norm (mrg (l.take k)) ∧ (∀ x, memS (mrg (l.take k)) x ↔ memS (l.take k) x) ∧ (mrg (l.take k)).length ≤ (l.take k).length ∧ ∀ t, (mrg (l.take k)).getLast? = some t → ∃ s ∈ l.take k, t.f0 ≤ s.f0) from by
    have := this l.length (Nat.le_refl _)
    rwa [List.take_length] at this
  intro k
  induction k with
  | zero => intro _; exact ⟨by simpa [mrg] using Norm.nil, by simp [mrg], by simp [mrg], by simp [mrg]⟩
  | succ k ih =>
    intro hk
    obtain ⟨h1, h2, h3, h4⟩ := ih (by omega)
    have hlt : k < l.length := hk
    rw [List.take_succ_eq_append_getElem hlt, mrg_snoc]
    have hs := hok l[k] (List.getElem_mem hlt)
    have hle : ∀ s ∈ l.take k, s.f0 ≤ l[k].f0 := by
      intro s hsm
      obtain ⟨i, hi, rfl⟩ := List.mem_iff_getElem.1 hsm
      rw [List.length_take] at hi
      rw [List.getElem_take]
      exact List.pairwise_iff_getElem.1 hup i k (by omega) hlt (by omega)
    rcases List.eq_nil_or_concat (mrg (l.take k)) with he | ⟨L, t, he⟩
    · rw [he, mrgS_nil]
      refine ⟨by simpa using Norm.nil.snoc hs (by simp), fun x => ?_, by rw [List.length_append]; simp, fun t ht => ?_⟩
      · rw [memS_append, ← h2 x, he]; simp [memS_nil]
      · simp at ht; subst ht; exact ⟨_, List.mem_append_right _ (List.mem_singleton.2 rfl), Int.le_refl _⟩
    · have he' : mrg (l.take k) = L ++ [t] := by simpa using he
      rw [he', mrgS_snoc]
      rw [he'] at h1 h2 h3 h4
      obtain ⟨n1, n2, n3⟩ := h1.init
      obtain ⟨s0, hs0, hs1⟩ := h4 t (by simp)
      have hts := hle s0 hs0
      unfold ok2 at hs n2
      by_cases hc : l[k].f0 ≤ t.f1
      · rw [if_pos hc]
        refine ⟨Norm.longer (b := t.f1) (by cases t; exact h1) (by omega) (by omega), fun x => ?_, by simp only [List.length_append, List.length_singleton] at h3 ⊢; omega, fun u hu => ?_⟩
        · rw [memS_append, memS_append, ← h2 x, memS_append, memS_one, memS_one, memS_one]
          unfold okS
          simp only
          constructor
          · rintro (h | h)
            · exact .inl (.inl h)
            · by_cases hx : x < t.f1
              · exact .inl (.inr ⟨⟨by omega, by omega, by omega⟩, h.2.1, hx⟩)
              · exact .inr ⟨⟨by omega, by omega, by omega⟩, by omega, by omega⟩
          · rintro ((h | h) | h)
            · exact .inl h
            · exact .inr ⟨⟨by omega, by omega, by omega⟩, h.2.1, by omega⟩
            · exact .inr ⟨⟨by omega, by omega, by omega⟩, by omega, by omega⟩
        · simp at hu; subst hu; exact ⟨s0, List.mem_append_left _ hs0, hs1⟩
      · rw [if_neg hc]
        refine ⟨h1.snoc ⟨hs.1, hs.2.1, hs.2.2⟩ (fun u hu => ?_), fun x => ?_, by simp only [List.length_append, List.length_singleton] at h3 ⊢; omega, fun u hu => ?_⟩
        · rcases List.mem_append.1 hu with hu | hu
          · have := n3 u hu; omega
          · simp at hu; subst hu; omega
        · rw [memS_append, memS_append (l.take k), ← h2 x]
        · simp at hu; subst hu; exact ⟨_, List.mem_append_right _ (List.mem_singleton.2 rfl), Int.le_refl _⟩

/-- the canonical list of a list's bytes -/
def ofL (l : List S42) : List S42 := mrg ((l.filter fun s => decide (ok2 s)).mergeSort fun a b => decide (a.f0 ≤ b.f0))
theorem memS_filter (l : List S42) (x : Int) : memS (l.filter fun s => decide (ok2 s)) x ↔ memS l x := by
  unfold memS
  constructor
  · rintro ⟨s, hs, r⟩; exact ⟨s, (List.mem_filter.1 hs).1, r⟩
  · rintro ⟨s, hs, ⟨h1, h2, h3⟩, h4, h5⟩
    exact ⟨s, List.mem_filter.2 ⟨hs, decide_eq_true (show ok2 s from ⟨h1, by omega, h3⟩)⟩, ⟨h1, h2, h3⟩, h4, h5⟩
theorem of_any {l d : List S42} (hp : d.Perm (l.filter fun s => decide (ok2 s))) (hs : d.Pairwise (fun a b => a.f0 ≤ b.f0)) : Norm (mrg d) ∧ (∀ x, memS (mrg d) x ↔ memS l x) ∧ (mrg d).length ≤ l.length := by
  obtain ⟨h1, h2, h3, _⟩ := mrg_spec d (fun s hs => by have := hp.mem_iff.1 hs; simpa using (List.mem_filter.1 this).2) hs
  refine ⟨h1, fun x => ?_, ?_⟩
  · rw [h2, memS_perm hp, memS_filter]
  · have := hp.length_eq; have := List.length_filter_le (fun s => decide (ok2 s)) l; omega
theorem ofL_spec (l : List S42) : Norm (ofL l) ∧ (∀ x, memS (ofL l) x ↔ memS l x) ∧ (ofL l).length ≤ l.length := by
  refine of_any (List.mergeSort_perm _ _) ?_
  have := List.pairwise_mergeSort (le := fun a b : S42 => decide (a.f0 ≤ b.f0)) (by intro a b c h1 h2; simp at *; omega) (by intro a b; simp; omega) (l.filter fun s => decide (ok2 s))
  exact this.imp (by intro a b h; simpa using h)
theorem ofL_eq {l d : List S42} (hp : d.Perm (l.filter fun s => decide (ok2 s))) (hs : d.Pairwise (fun a b => a.f0 ≤ b.f0)) : mrg d = ofL l := by
  obtain ⟨h1, h2, _⟩ := of_any hp hs
  obtain ⟨g1, g2, _⟩ := ofL_spec l
  exact h1.uniq g1 fun x => by rw [h2, g2]
theorem ofL_norm {l : List S42} (h : Norm l) : ofL l = l := (ofL_spec l).1.uniq h (ofL_spec l).2.1
end Go.Proofs.YtbgojgoejlhgeaaDoor.Pr
