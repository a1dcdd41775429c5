/- What the reference's functions on sets of bytes come to: any of its sets is the canonical one. Conditions: few spans. -/
import Derived.Test.YtbgojgoejlhgeaaDoorS1
import Derived.Test.YtbgojgoejlhgeaaDoorG5
import Derived.Test.YtbgojgoejlhgeaaDoorH3
import Derived.Test.YtbgojgoejlhgeaaDoorG4r
namespace Go.Proofs.YtbgojgoejlhgeaaDoor.Pr
open Go.RowKit Go.Proofs.YtbgojgoejlhgeaaDoorW.PrintWords Go.Proofs.YtbgojgoejlhgeaaDoorW.PrintMore

theorem refRight (s : S42) : r01_Right.f s.f0 s.f1 = some (decide (okS s)) := by
  unfold r01_Right.f r01_end.f okS
  by_cases h0 : s.f0 ≥ 0
  · by_cases h1 : s.f0 ≤ s.f1
    · simp [h0, h1]
    · simp [h0, h1]
  · simp [h0]

/-- a number into a rising list, once -/
def insP (n : Int) : List Int → List Int
  | [] => [n]
  | x :: r => if x ≥ n then (if x > n then n :: x :: r else x :: r) else x :: insP n r
theorem insP_spec (n : Int) (l : List Int) (h : l.Pairwise (· < ·)) : (insP n l).Pairwise (· < ·) ∧ (∀ x, x ∈ insP n l ↔ x = n ∨ x ∈ l) ∧ (insP n l).length ≤ l.length + 1 := by
  induction l with
  | nil => simp [insP]
  | cons x r ih =>
    obtain ⟨h1, h2⟩ := List.pairwise_cons.1 h
    obtain ⟨i1, i2, i3⟩ := ih h2
    simp only [insP]
    by_cases hx : x ≥ n
    · rw [if_pos hx]
      by_cases hx2 : x > n
      · rw [if_pos hx2]
        refine ⟨List.pairwise_cons.2 ⟨fun y hy => ?_, h⟩, fun y => by simp, by simp⟩
        rcases List.mem_cons.1 hy with rfl | hy
        · exact hx2
        · have := h1 y hy; omega
      · rw [if_neg hx2]
        have e : x = n := by omega
        subst e
        exact ⟨h, fun y => by simp, by simp⟩
    · rw [if_neg hx]
      refine ⟨List.pairwise_cons.2 ⟨fun y hy => ?_, i1⟩, fun y => ?_, by simp; omega⟩
      · rcases (i2 y).1 hy with rfl | hy
        · omega
        · exact h1 y hy
      · simp only [List.mem_cons, i2]
        constructor
        · rintro (h | h | h)
          · exact .inr (.inl h)
          · exact .inl h
          · exact .inr (.inr h)
        · rintro (h | h | h)
          · exact .inr (.inl h)
          · exact .inl h
          · exact .inr (.inr h)
theorem rdI (l : List Int) (i : Nat) (h : i < l.length) : rd l (i : Int) = l[i] := by simp [rd, List.getD_eq_getElem?_getD, h]
theorem ins_ev (l : List Int) (n : Int) (hl : l.length < 1000000) : Ev (fun k => r02_insert.f k l n) (insP n l) := by
  suffices ∀ d i, l.length - i = d → i ≤ l.length → ∀ out : List Int, out.length ≤ 2 * i →
      Ev (fun k => r02_insert.l0 k l n out true (i : Int)) (out ++ l.drop i) ∧ Ev (fun k => r02_insert.l0 k l n out false (i : Int)) (out ++ insP n (l.drop i)) from by
    have := (this l.length 0 rfl (Nat.zero_le _) [] (by simp)).2
    simpa [r02_insert.f] using this
  intro d
  induction d with
  | zero =>
    intro i hd hi out ho
    obtain rfl : i = l.length := by omega
    rw [List.drop_length]
    refine ⟨Ev.up (f := fun _ => some out) (by simpa using Ev.now out) fun k => ?_, Ev.up (f := fun _ => some (out ++ [n])) (by simpa [insP] using Ev.now (out ++ [n])) fun k => ?_⟩
    · simp only [r02_insert.l0]
      rw [if_neg (by omega), if_pos trivial]
    · simp only [r02_insert.l0]
      rw [if_neg (by omega), if_neg (by simp), if_pos (by omega)]
  | succ d ih =>
    intro i hd hi out ho
    have hlt : i < l.length := by omega
    have keep : ∀ b : Bool, (∀ o : List Int, o.length ≤ 2 * (i + 1) → Ev (fun k => r02_insert.l0 k l n o b (((i + 1 : Nat)) : Int)) (o ++ (if b then l.drop (i + 1) else insP n (l.drop (i + 1))))) →
        Ev (fun k => r02_insert.j1 k l n out b (i : Int) false) (out ++ [l[i]] ++ (if b then l.drop (i + 1) else insP n (l.drop (i + 1)))) := by
      intro b hb
      refine Ev.up (hb (out ++ [l[i]]) (by simp; omega)) fun k => ?_
      simp only [r02_insert.j1]
      rw [if_neg (by simp), if_pos (by omega), if_pos (by omega), if_pos (by omega), rdI l i hlt, wrap_nat (by omega)]
    have ht := fun o ho => (ih (i + 1) (by omega) (by omega) o ho).1
    have hf := fun o ho => (ih (i + 1) (by omega) (by omega) o ho).2
    rw [List.drop_eq_getElem_cons hlt]
    constructor
    · have := keep true (by simpa using ht)
      refine Ev.up (f := fun k => r02_insert.j1 k l n out true (i : Int) false) (by simpa using this) fun k => ?_
      simp only [r02_insert.l0]
      rw [if_pos (by omega), if_pos trivial]
    · simp only [insP]
      by_cases hx : l[i] ≥ n
      · rw [if_pos hx]
        have j : Ev (fun k => r02_insert.j1 k l n out false (i : Int) true) (out ++ if l[i] > n then n :: l[i] :: l.drop (i + 1) else l[i] :: l.drop (i + 1)) := by
          by_cases hx2 : l[i] > n
          · rw [if_pos hx2]
            have := ht (out ++ [n] ++ [l[i]]) (by simp; omega)
            refine Ev.up (f := fun k => r02_insert.l0 k l n (out ++ [n] ++ [l[i]]) true (((i + 1 : Nat)) : Int)) (by simpa using this) fun k => ?_
            simp only [r02_insert.j1]
            rw [if_pos trivial, if_pos (by omega), if_pos (by omega), rdI l i hlt, if_pos hx2, if_pos (by omega)]
            simp only [Option.bind_some]
            rw [if_pos (by simp; omega), wrap_nat (by omega)]
          · rw [if_neg hx2]
            have := ht (out ++ [l[i]]) (by simp; omega)
            refine Ev.up (f := fun k => r02_insert.l0 k l n (out ++ [l[i]]) true (((i + 1 : Nat)) : Int)) (by simpa using this) fun k => ?_
            simp only [r02_insert.j1]
            rw [if_pos trivial, if_pos (by omega), if_pos (by omega), rdI l i hlt, if_neg hx2, if_pos (by omega), wrap_nat (by omega)]
        refine Ev.up j fun k => ?_
        simp only [r02_insert.l0]
        rw [if_pos (by omega), if_neg (by simp), if_pos (by omega), rdI l i hlt, decide_eq_true hx]
      · rw [if_neg hx]
        have := keep false (by simpa using hf)
        refine Ev.up (f := fun k => r02_insert.j1 k l n out false (i : Int) false) (by simpa using this) fun k => ?_
        simp only [r02_insert.l0]
        rw [if_pos (by omega), if_neg (by simp), if_pos (by omega), rdI l i hlt, decide_eq_false hx]
theorem In_ev (l : List S42) (x : Int) (hl : l.length < 1000000) : Ev (fun k => r02_In.f k l x) (decide (memS l x)) := by
  suffices ∀ d i, l.length - i = d → i ≤ l.length → Ev (fun k => r02_In.l0 k l x (i : Int)) (decide (memS (l.drop i) x)) from by
    have := this l.length 0 rfl (Nat.zero_le _)
    simpa [r02_In.f] using this
  intro d
  induction d with
  | zero =>
    intro i hd hi
    obtain rfl : i = l.length := by omega
    rw [List.drop_length, decide_eq_false (memS_nil x)]
    refine Ev.up (Ev.now false) fun k => ?_
    simp only [r02_In.l0]
    rw [if_neg (by omega)]
  | succ d ih =>
    intro i hd hi
    have hlt : i < l.length := by omega
    have hn := ih (i + 1) (by omega) (by omega)
    have e : memS (l.drop i) x ↔ (okS l[i] ∧ l[i].f0 ≤ x ∧ x < l[i].f1) ∨ memS (l.drop (i + 1)) x := by rw [List.drop_eq_getElem_cons hlt, memS_cons]
    by_cases h : okS l[i] ∧ l[i].f0 ≤ x ∧ x < l[i].f1
    · rw [decide_eq_true (e.2 (.inl h))]
      refine Ev.up (Ev.now true) fun k => ?_
      simp only [r02_In.l0]
      rw [if_pos (by omega), if_pos (by omega), rdT l i hlt, refRight, decide_eq_true h.1]
      simp only [Option.bind_some]
      rw [if_pos trivial, if_pos h.2.1, if_pos h.2.2]
    · rw [show decide (memS (l.drop i) x) = decide (memS (l.drop (i + 1)) x) by
        rw [decide_eq_decide, e]; exact ⟨fun h' => h'.resolve_left h, .inr⟩]
      refine Ev.up hn fun k => ?_
      simp only [r02_In.l0]
      rw [if_pos (by omega), if_pos (by omega), rdT l i hlt, refRight, wrap_nat (by omega)]
      simp only [Option.bind_some]
      by_cases h1 : okS l[i]
      · rw [decide_eq_true h1, if_pos rfl]
        by_cases h2 : x ≥ l[i].f0
        · rw [if_pos h2, if_neg (fun h3 => h ⟨h1, h2, h3⟩)]
        · rw [if_neg h2]
      · rw [decide_eq_false h1, if_neg (by simp)]

/-- all ends of right spans, rising -/
def endsP (out : List Int) : List S42 → List Int
  | [] => out
  | s :: r => endsP (if okS s then insP s.f1 (insP s.f0 out) else out) r
theorem endsP_spec (l : List S42) (out : List Int) (h : out.Pairwise (· < ·)) : (endsP out l).Pairwise (· < ·) ∧ (∀ x, x ∈ endsP out l ↔ x ∈ out ∨ ∃ s ∈ l, okS s ∧ (x = s.f0 ∨ x = s.f1)) ∧ (endsP out l).length ≤ out.length + 2 * l.length := by
  induction l generalizing out with
  | nil => exact ⟨h, by simp [endsP], by simp [endsP]⟩
  | cons s r ih =>
    simp only [endsP]
    by_cases hs : okS s
    · rw [if_pos hs]
      obtain ⟨a1, a2, a3⟩ := insP_spec s.f0 out h
      obtain ⟨b1, b2, b3⟩ := insP_spec s.f1 _ a1
      obtain ⟨c1, c2, c3⟩ := ih _ b1
      refine ⟨c1, fun x => ?_, by simp; omega⟩
      rw [c2, b2, a2]
      constructor
      · rintro ((h | h | h) | ⟨t, ht, h⟩)
        · exact .inr ⟨s, by simp, hs, .inr h⟩
        · exact .inr ⟨s, by simp, hs, .inl h⟩
        · exact .inl h
        · exact .inr ⟨t, by simp [ht], h⟩
      · rintro (h | ⟨t, ht, h1, h2⟩)
        · exact .inl (.inr (.inr h))
        · rcases List.mem_cons.1 ht with rfl | ht
          · rcases h2 with h2 | h2
            · exact .inl (.inr (.inl h2))
            · exact .inl (.inl h2)
          · exact .inr ⟨t, ht, h1, h2⟩
    · rw [if_neg hs]
      obtain ⟨c1, c2, c3⟩ := ih _ h
      refine ⟨c1, fun x => ?_, by simp; omega⟩
      rw [c2]
      constructor
      · rintro (h | ⟨t, ht, h⟩)
        · exact .inl h
        · exact .inr ⟨t, by simp [ht], h⟩
      · rintro (h | ⟨t, ht, h1, h2⟩)
        · exact .inl h
        · rcases List.mem_cons.1 ht with rfl | ht
          · exact absurd h1 hs
          · exact .inr ⟨t, ht, h1, h2⟩
theorem ends_ev (a b : List S42) (hl : a.length + b.length < 100000) : Ev (fun k => r02_ends.f k a b) (endsP [] (a ++ b)) := by
  have main : ∀ (l : List S42), l.length < 100000 → ∀ d i, l.length - i = d → i ≤ l.length → ∀ out : List Int, out.length ≤ 2 * i → Ev (fun k => r02_ends.l0 k out l (i : Int)) (endsP out (l.drop i)) := by
    intro l hl d
    induction d with
    | zero =>
      intro i hd hi out _
      obtain rfl : i = l.length := by omega
      rw [List.drop_length]
      refine Ev.up (Ev.now out) fun k => ?_
      simp only [r02_ends.l0]
      rw [if_neg (by omega)]
    | succ d ih =>
      intro i hd hi out ho
      have hlt : i < l.length := by omega
      rw [List.drop_eq_getElem_cons hlt]
      simp only [endsP]
      by_cases hs : okS l[i]
      · rw [if_pos hs]
        have hlen : ∀ (n : Int) (o : List Int), (insP n o).length ≤ o.length + 1 := by
          intro n o
          induction o with
          | nil => simp [insP]
          | cons x r ih => simp only [insP]; split; · split <;> simp
                           · simp; omega
        have l1 := hlen l[i].f0 out
        have l2 := hlen l[i].f1 (insP l[i].f0 out)
        have h3 := ih (i + 1) (by omega) (by omega) (insP l[i].f1 (insP l[i].f0 out)) (by omega)
        have h1 := ins_ev out l[i].f0 (by omega)
        have h2 := ins_ev (insP l[i].f0 out) l[i].f1 (by omega)
        refine Ev.up (Ev.bind h1 (f := fun k t => (r02_insert.f k t l[i].f1).bind fun t2 => r02_ends.l0 k t2 l (((i + 1 : Nat)) : Int)) (Ev.bind h2 (f := fun k t2 => r02_ends.l0 k t2 l (((i + 1 : Nat)) : Int)) h3)) fun k => ?_
        simp only [r02_ends.l0]
        rw [if_pos (by omega), if_pos (by omega), rdT l i hlt, refRight, decide_eq_true hs, wrap_nat (by omega)]
        simp only [Option.bind_some]
        rw [if_pos trivial]
      · rw [if_neg hs]
        refine Ev.up (ih (i + 1) (by omega) (by omega) out (by omega)) fun k => ?_
        simp only [r02_ends.l0]
        rw [if_pos (by omega), if_pos (by omega), rdT l i hlt, refRight, decide_eq_false hs, wrap_nat (by omega)]
        simp only [Option.bind_some]
        rw [if_neg (by simp)]
  have h := main (a ++ b) (by simp; omega) (a ++ b).length 0 rfl (Nat.zero_le _) [] (by simp)
  refine Ev.congr (f := fun k => r02_ends.l0 k [] (a ++ b) 0) (fun k => ?_) (by simpa using h)
  unfold r02_ends.f
  simp only [Option.bind_some, List.nil_append]
  rw [if_pos (by simp; omega), if_pos (by omega)]
end Go.Proofs.YtbgojgoejlhgeaaDoor.Pr
