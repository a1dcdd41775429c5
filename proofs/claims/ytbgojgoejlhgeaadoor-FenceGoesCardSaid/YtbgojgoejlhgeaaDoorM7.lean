/- The program's and the document's Lost, Sure and Decide are one plain function. Conditions: the sets rise; few spans. -/
import Derived.Test.YtbgojgoejlhgeaaDoorS1
import Derived.Test.YtbgojgoejlhgeaaDoorH1
import Derived.Test.YtbgojgoejlhgeaaDoorH4
import Derived.Test.YtbgojgoejlhgeaaDoorG4
import Derived.Test.YtbgojgoejlhgeaaDoorG8
namespace Go.Proofs.YtbgojgoejlhgeaaDoor.Pr
open Go.RowKit Go.Proofs.YtbgojgoejlhgeaaDoorW.PrintWords Go.Proofs.YtbgojgoejlhgeaaDoorW.PrintMore

theorem progWant {s : St} (h : NS s 900) : Ev (fun k => fence_State_wanting.f k s.head s.R s.H s.F s.turned s.failed s.again s.joins) (wantS s) := by
  have l1 := h.lr; have l2 := h.lh; have l3 := h.lf
  obtain ⟨e1, n1, _, c1⟩ := less_f h.h h.r (by omega) (by omega)
  have c2 : (lessL s.H s.R).length < 1000000 := by
    have := Nat.le_trans c1 (mul_le l1 l2); omega
  obtain ⟨e2, _⟩ := less_f h.f n1 (by omega) c2
  exact Ev.bind e1 (f := fun k t => (ranges_Set_Less.f k t s.F).bind fun t2 => some t2) (Ev.bind e2 (f := fun _ t => some t) (Ev.now _))
theorem progLost {s : St} (h : NS s 900) : Ev (fun k => fence_Lost.f k s.head s.R s.H s.F s.turned s.failed s.again s.joins) (lostS s) := by
  have hw := Ev.bind (progWant h) (f := fun _ t => some t) (Ev.now _)
  unfold lostS
  by_cases h1 : s.turned = true
  · rw [if_pos (.inl h1)]
    exact Ev.congr (fun k => by unfold fence_Lost.f; rw [if_pos h1]) hw
  · by_cases h2 : s.failed = true
    · rw [if_pos (.inr (.inl h2))]
      exact Ev.congr (fun k => by unfold fence_Lost.f; rw [if_neg h1, if_pos h2]) hw
    · by_cases h3 : s.joins = true
      · rw [if_neg (by simp [h1, h2, h3])]
        exact Ev.congr (f := fun _ => some []) (fun k => by unfold fence_Lost.f; rw [if_neg h1, if_neg h2, if_pos h3]) (Ev.now _)
      · rw [if_pos (.inr (.inr (by simpa using h3)))]
        exact Ev.congr (fun k => by unfold fence_Lost.f; rw [if_neg h1, if_neg h2, if_neg h3]) hw

/-- how many bytes -/
def lenL (l : List S42) : Int := if l.any (fun s => s.f1 == 4611686018427387904) then 4611686018427387904 else (l.map fun s => s.f1 - s.f0).sum
theorem sum_bd {l : List S42} (h : Norm l) : ∀ lo, (∀ s ∈ l, lo ≤ s.f0) → 0 ≤ lo → 0 ≤ (l.map fun s => s.f1 - s.f0).sum ∧ (l.map fun s => s.f1 - s.f0).sum ≤ 4611686018427387904 - lo ∨ l = [] := by
  induction l with
  | nil => intro _ _ _; exact .inr rfl
  | cons s r ih =>
    intro lo hlo h0
    left
    have hs := h.head
    unfold ok2 at hs
    have hl := hlo s (by simp)
    rcases ih h.tail s.f1 (fun t ht => Int.le_of_lt (h.gap ht)) (by omega) with h1 | rfl
    · simp only [List.map_cons, List.sum_cons]; omega
    · simp; omega
theorem sum_nonneg {l : List S42} (h : Norm l) : 0 ≤ (l.map fun s => s.f1 - s.f0).sum := by
  rcases sum_bd h 0 (fun s hs => (h.ok s hs).1) (Int.le_refl _) with h1 | rfl
  · exact h1.1
  · simp
theorem lenL_zero {l : List S42} (h : Norm l) : lenL l = 0 ↔ l = [] := by
  cases l with
  | nil => simp [lenL]
  | cons s r =>
    have hs := h.head
    unfold ok2 at hs
    have := sum_nonneg h.tail
    simp only [lenL]
    split
    · simp
    · simp only [List.map_cons, List.sum_cons]
      constructor
      · intro e; omega
      · intro e; cases e
theorem lenL_bd {l : List S42} (h : Norm l) : 0 ≤ lenL l ∧ lenL l ≤ 4611686018427387904 := by
  unfold lenL
  split
  · omega
  · rcases sum_bd h 0 (fun s hs => (h.ok s hs).1) (Int.le_refl _) with h1 | rfl
    · omega
    · simp
theorem len_ev {l : List S42} (h : Norm l) (hl : l.length < 8796093022208) : Ev (fun k => ranges_Set_Len.f k l) (lenL l) := by
  suffices ∀ d i, l.length - i = d → i ≤ l.length → ∀ acc : Int, 0 ≤ acc → (∀ s, l[i]? = some s → acc ≤ s.f0) →
      Ev (fun k => ranges_Set_Len.l0 k acc l (l.length : Int) (i : Int)) (if (l.drop i).any (fun s => s.f1 == 4611686018427387904) then 4611686018427387904 else acc + ((l.drop i).map fun s => s.f1 - s.f0).sum) from by
    have := this l.length 0 rfl (Nat.zero_le _) 0 (Int.le_refl _) (fun s hs => (h.ok s (List.mem_of_getElem? hs)).1)
    simpa [ranges_Set_Len.f, lenL] using this
  intro d
  induction d with
  | zero =>
    intro i hd hi acc h0 _
    obtain rfl : i = l.length := by omega
    rw [List.drop_length]
    refine Ev.up (f := fun _ => some acc) (by simpa using Ev.now acc) fun k => ?_
    simp only [ranges_Set_Len.l0]
    rw [if_neg (by omega)]
  | succ d ih =>
    intro i hd hi acc h0 hacc
    have hlt : i < l.length := by omega
    have ha := hacc l[i] (by simp [hlt])
    have hs := h.ok l[i] (List.getElem_mem hlt)
    unfold ok2 at hs
    rw [List.drop_eq_getElem_cons hlt]
    simp only [List.any_cons, List.map_cons, List.sum_cons]
    by_cases ho : l[i].f1 = 4611686018427387904
    · rw [if_pos (by simp [ho])]
      refine Ev.up (Ev.now _) fun k => ?_
      simp only [ranges_Set_Len.l0]
      rw [if_pos (by omega), if_pos (by omega), if_pos (by omega), rdT l i hlt, if_pos ho]
    · have hw : wrap64 (acc + wrap64 (l[i].f1 - l[i].f0)) = acc + (l[i].f1 - l[i].f0) := by unfold wrap64; omega
      have hn := ih (i + 1) (by omega) (by omega) (acc + (l[i].f1 - l[i].f0)) (by omega) (fun t ht => by
        obtain ⟨h1, rfl⟩ := List.getElem?_eq_some_iff.1 ht
        have := List.pairwise_iff_getElem.1 h.up i (i + 1) hlt h1 (by omega)
        omega)
      rw [show (l[i].f1 == 4611686018427387904 || (l.drop (i + 1)).any fun s => s.f1 == 4611686018427387904) = (l.drop (i + 1)).any fun s => s.f1 == 4611686018427387904 by simp [ho], ← Int.add_assoc]
      refine Ev.up hn fun k => ?_
      simp only [ranges_Set_Len.l0]
      rw [if_pos (by omega), if_pos (by omega), if_pos (by omega), rdT l i hlt, if_neg ho, hw, wrap_nat (by omega)]
theorem empty_ev {l : List S42} (h : Norm l) (hl : l.length < 8796093022208) : Ev (fun k => fence_empty.f k l) (decide (l = [])) := by
  have e : (lenL l == 0) = decide (l = []) := by rw [Bool.eq_iff_iff]; simpa using lenL_zero h
  rw [← e]
  exact Ev.bind (len_ev h hl) (f := fun _ t => some (t == 0)) (Ev.now _)
theorem progSure {s : St} (h : NS s 900) : Ev (fun k => fence_Sure.f k s.head s.R s.H s.F s.turned s.failed s.again s.joins) (sureS s) := by
  obtain ⟨w1, _, w3⟩ := want_norm h
  exact Ev.bind (progWant h) (f := fun k t => (fence_empty.f k t).bind fun t2 => some t2) (Ev.bind (empty_ev w1 (by omega)) (f := fun _ t => some t) (Ev.now _))
theorem from_f {l : List S42} (h : Norm l) (hl : l.length < 8796093022208) (a : Int) : ranges_Set_from.f l a = some (fr l a : Int) := by
  unfold ranges_Set_from.f; rw [if_pos ⟨h.ups, by omega⟩]
theorem spanHas (s : S42) (a : Int) : span_Has.f s.f0 s.f1 a = some (decide (okS s ∧ s.f0 ≤ a ∧ a < s.f1)) := by
  have hr : span_Right.f s.f0 s.f1 = some (decide (okS s)) := by
    unfold span_Right.f okS
    by_cases h0 : 0 ≤ s.f0
    · by_cases h1 : s.f0 ≤ s.f1
      · simp [h0, h1]
      · simp [h0, h1]
    · simp [h0]
  unfold span_Has.f
  rw [hr]
  simp only [Option.bind_some]
  by_cases h1 : okS s
  · by_cases h2 : s.f0 ≤ a
    · simp [h1, h2]
    · simp [h1, h2]
  · simp [h1]
theorem has_f {l : List S42} (h : Norm l) (hl : l.length < 8796093022208) (a : Int) : ranges_Set_Has.f l a = some (decide (memS l a)) := by
  unfold ranges_Set_Has.f
  rw [from_f h hl]
  simp only [Option.bind_some]
  have hle := fr_le l a
  by_cases hlt : fr l a < l.length
  · rw [if_pos (by omega), if_pos (by omega), rdT l _ hlt, spanHas]
    simp only [Option.bind_some]
    congr 1
    rw [decide_eq_decide]
    constructor
    · rintro ⟨h1, h2, h3⟩
      exact ⟨_, List.getElem_mem hlt, h1, h2, h3⟩
    · rintro ⟨t, ht, h1, h2, h3⟩
      obtain ⟨i, hi, rfl⟩ := List.mem_iff_getElem.1 ht
      have hge : fr l a ≤ i := by
        refine Nat.le_of_not_lt fun hc => ?_
        have := (fr_iff h.ups a i hi).2 hc
        rw [rdT l i hi] at this; omega
      rcases Nat.lt_or_eq_of_le hge with hc | hc
      · have h4 := List.pairwise_iff_getElem.1 h.up (fr l a) i hlt hi hc
        have h5 := mt (fr_iff h.ups a (fr l a) hlt).1 (Nat.lt_irrefl _)
        rw [rdT l _ hlt] at h5
        omega
      · subst hc; exact ⟨h1, h2, h3⟩
  · rw [if_neg (by omega)]
    congr 1
    symm
    refine decide_eq_false ?_
    rintro ⟨t, ht, h1, h2, h3⟩
    obtain ⟨i, hi, rfl⟩ := List.mem_iff_getElem.1 ht
    have := (fr_iff h.ups a i hi).2 (by omega)
    rw [rdT l i hi] at this; omega
theorem first_f {x : S42} {l : List S42} (h : Norm (x :: l)) (hl : (x :: l).length < 8796093022208) : ranges_Set_First.f (x :: l) 0 = some (x.f0, x.f1, true) := by
  unfold ranges_Set_First.f
  rw [from_f h hl]
  simp only [Option.bind_some]
  have hx := h.head
  unfold ok2 at hx
  have e : fr (x :: l) 0 = 0 := by unfold fr; rw [List.takeWhile_cons, if_neg (by simp; omega)]; rfl
  rw [e, if_neg (by simp; omega), if_pos (by omega), if_pos (by simp)]
  have : rd_T42 (x :: l) ((0 : Nat) : Int) = x := rdT (x :: l) 0 (by simp)
  rw [this, mx_max]
  congr 2
  omega
theorem first_nil : ranges_Set_First.f [] 0 = some (0, 0, false) := by
  unfold ranges_Set_First.f
  rw [from_f Norm.nil (by simp)]
  rfl
theorem progDecide {s : St} (h : NS s 900) : Ev (fun k => fence_Decide.f k s.head s.R s.H s.F s.turned s.failed s.again s.joins) (decS s) := by
  obtain ⟨n1, n2⟩ := lost_norm h
  have l1 := h.lr; have l2 := h.lh; have l3 := h.lf
  refine Ev.bind (progLost h) (f := fun k t155 => (fence_empty.f k s.R).bind fun t159 => (if t159 = true then (some 6) else ((fence_empty.f k t155).bind fun t160 => (if t160 = true then (fence_Decide.j0 k false s.head s.R s.H s.F s.turned s.failed s.again s.joins t155) else (fence_Decide.j0 k (!s.head) s.head s.R s.H s.F s.turned s.failed s.again s.joins t155))))) ?_
  refine Ev.bind (empty_ev h.r (by omega)) (f := fun k t159 => (if t159 = true then (some 6) else ((fence_empty.f k (lostS s)).bind fun t160 => (if t160 = true then (fence_Decide.j0 k false s.head s.R s.H s.F s.turned s.failed s.again s.joins (lostS s)) else (fence_Decide.j0 k (!s.head) s.head s.R s.H s.F s.turned s.failed s.again s.joins (lostS s)))))) ?_
  by_cases hR : s.R = []
  · rw [decide_eq_true hR]
    simp only [↓reduceIte]
    have : decS s = 6 := by unfold decS; rw [hR]
    rw [this]; exact Ev.now _
  · rw [decide_eq_false hR]
    simp only [Bool.false_eq_true, ↓reduceIte]
    obtain ⟨x, l, hx⟩ : ∃ x l, s.R = x :: l := by
      cases hc : s.R with
      | nil => exact absurd hc hR
      | cons x l => exact ⟨x, l, rfl⟩
    have hd : decS s = if lostS s ≠ [] ∧ s.head = false then (if s.again > 0 then 4 else 5) else if memS s.H x.f0 then 1 else if memS s.F x.f0 then 2 else if lostS s ≠ [] then 5 else 3 := by unfold decS; rw [hx]
    have hfirst := first_f (x := x) (l := l) (by rw [← hx]; exact h.r) (by rw [← hx]; omega)
    rw [← hx] at hfirst
    have hlast : ¬ memS s.H x.f0 → ¬ memS s.F x.f0 → (memS (lostS s) x.f0 ↔ lostS s ≠ []) := by
      intro h1 h2
      unfold lostS
      split
      · have hm : memS (wantS s) x.f0 := ((want_norm h).2.1 _).2 ⟨by rw [hx]; exact Norm.mem_head (by rw [← hx]; exact h.r), h1, h2⟩
        refine ⟨fun _ e => ?_, fun _ => hm⟩
        rw [e] at hm; exact memS_nil _ hm
      · simp [memS_nil]
    refine Ev.bind (empty_ev n1 (by omega)) (f := fun k t160 => (if t160 = true then (fence_Decide.j0 k false s.head s.R s.H s.F s.turned s.failed s.again s.joins (lostS s)) else (fence_Decide.j0 k (!s.head) s.head s.R s.H s.F s.turned s.failed s.again s.joins (lostS s)))) ?_
    have j0f : ∀ b : Bool, Ev (fun k => fence_Decide.j0 k b s.head s.R s.H s.F s.turned s.failed s.again s.joins (lostS s)) (if b = true then (if s.again > 0 then 4 else 5) else if memS s.H x.f0 then 1 else if memS s.F x.f0 then 2 else if lostS s ≠ [] then 5 else 3) := by
      intro b
      refine Ev.up (f := fun _ => some _) (Ev.now _) fun k => ?_
      simp only [fence_Decide.j0]
      cases b with
      | true =>
        simp only [↓reduceIte]
        by_cases ha : s.again > 0
        · rw [if_pos ha, if_pos ha]
        · rw [if_neg ha, if_neg ha]
      | false =>
        simp only [Bool.false_eq_true, ↓reduceIte]
        rw [hfirst]
        simp only [Option.bind_some]
        rw [has_f h.h (by omega), has_f h.f (by omega), has_f n1 (by omega)]
        simp only [Option.bind_some]
        by_cases h1 : memS s.H x.f0
        · rw [if_pos h1, decide_eq_true h1, if_pos rfl]
        · rw [if_neg h1, decide_eq_false h1, if_neg (by simp)]
          by_cases h2 : memS s.F x.f0
          · rw [if_pos h2, decide_eq_true h2, if_pos rfl]
          · rw [if_neg h2, decide_eq_false h2, if_neg (by simp)]
            have h3 := hlast h1 h2
            by_cases h4 : lostS s ≠ []
            · rw [if_pos h4, decide_eq_true (h3.2 h4), if_pos rfl]
            · rw [if_neg h4, decide_eq_false (fun hc => h4 (h3.1 hc)), if_neg (by simp)]
    by_cases hl : lostS s = []
    · rw [decide_eq_true hl]
      simp only [↓reduceIte]
      have := j0f false
      rw [hd, if_neg (by simp [hl])]
      simpa using this
    · rw [decide_eq_false hl]
      simp only [Bool.false_eq_true, ↓reduceIte]
      have := j0f (!s.head)
      rw [hd]
      cases hh : s.head with
      | true => rw [hh] at this; simpa [hl] using this
      | false => rw [hh] at this; simpa [hl] using this
end Go.Proofs.YtbgojgoejlhgeaaDoor.Pr
