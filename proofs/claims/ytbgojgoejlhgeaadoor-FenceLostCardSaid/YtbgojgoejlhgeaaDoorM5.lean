/- What the reference's operations on sets come to. Conditions: few spans. -/
import Derived.Test.YtbgojgoejlhgeaaDoorM4
import Derived.Test.YtbgojgoejlhgeaaDoorG6
namespace Go.Proofs.YtbgojgoejlhgeaaDoor.Pr
open Go.RowKit Go.Proofs.YtbgojgoejlhgeaaDoorW.PrintWords Go.Proofs.YtbgojgoejlhgeaaDoorW.PrintMore

def selB (op : Int) (x y : Bool) : Bool := if op = 1 then x || y else if op = 2 then x && y else x && !y
/-- a span more, that touches the last one or doesn't -/
def mrg2 (out : List S42) (x y : Int) : List S42 :=
  match out.getLast? with
  | some t => if t.f1 = x then out.dropLast ++ [⟨t.f0, y⟩] else out ++ [⟨x, y⟩]
  | none => out ++ [⟨x, y⟩]
theorem mrg2_nil (x y : Int) : mrg2 [] x y = [⟨x, y⟩] := rfl
theorem mrg2_snoc (l : List S42) (t : S42) (x y : Int) : mrg2 (l ++ [t]) x y = if t.f1 = x then l ++ [⟨t.f0, y⟩] else l ++ [t] ++ [⟨x, y⟩] := by
  unfold mrg2; simp
theorem mrg2_len (out : List S42) (x y : Int) : (mrg2 out x y).length ≤ out.length + 1 := by
  rcases List.eq_nil_or_concat out with rfl | ⟨l, t, he⟩
  · simp [mrg2]
  · obtain rfl : out = l ++ [t] := by simpa using he
    rw [mrg2_snoc]; split <;> simp
def ofW (sel : Int → Bool) (out : List S42) : List Int → List S42
  | x :: y :: r => ofW sel (if sel x then mrg2 out x y else out) (y :: r)
  | _ => out
theorem ofW_two (sel : Int → Bool) (out : List S42) (x y : Int) (r : List Int) : ofW sel out (x :: y :: r) = ofW sel (if sel x then mrg2 out x y else out) (y :: r) := by rw [ofW]
theorem ofW_spec (sel : Int → Bool) (S : Int → Prop) (l : List Int) : ∀ (x : Int) (out : List S42), (x :: l).Pairwise (· < ·) → (∀ y ∈ x :: l, 0 ≤ y ∧ y ≤ 4611686018427387904) →
    (∀ u v : Int, ∀ p s : List Int, x :: l = p ++ u :: v :: s → ∀ z, u ≤ z → z < v → (S z ↔ sel u = true)) →
    Norm out → (∀ t ∈ out, t.f1 ≤ x) → (∀ z, z < x → (memS out z ↔ S z)) →
    Norm (ofW sel out (x :: l)) ∧ (∀ t ∈ ofW sel out (x :: l), t.f1 ≤ (x :: l).getLast (by simp)) ∧ (∀ z, z < (x :: l).getLast (by simp) → (memS (ofW sel out (x :: l)) z ↔ S z)) := by
  induction l with
  | nil => intro x out _ _ _ h1 h2 h3; simpa [ofW] using ⟨h1, h2, h3⟩
  | cons y r ih =>
    intro x out hp hr hS h1 h2 h3
    obtain ⟨hx, hp'⟩ := List.pairwise_cons.1 hp
    have hxy := hx y (by simp)
    have rx := hr x (by simp)
    have ry := hr y (by simp)
    rw [ofW_two]
    have hz := hS x y [] r (by simp)
    have hlast : (x :: y :: r).getLast (by simp) = (y :: r).getLast (by simp) := by simp
    rw [hlast]
    have lt_of_mem : ∀ z, memS out z → z < x := by
      rintro z ⟨t, ht, _, _, h⟩
      have := h2 t ht; omega
    refine ih y _ hp' (fun w hw => hr w (by simp [hw])) (fun u v p s e => hS u v (x :: p) s (by rw [e]; rfl)) ?_ ?_ ?_
    · by_cases hs : sel x = true
      · rw [if_pos hs]
        rcases List.eq_nil_or_concat out with rfl | ⟨L, t, he⟩
        · rw [mrg2_nil]; simpa using Norm.nil.snoc (s := ⟨x, y⟩) ⟨rx.1, hxy, ry.2⟩ (by simp)
        · obtain rfl : out = L ++ [t] := by simpa using he
          rw [mrg2_snoc]
          obtain ⟨n1, n2, n3⟩ := h1.init
          have htx := h2 t (by simp)
          split
          · rename_i e
            exact n1.snoc ⟨n2.1, by have := n2.2.1; simp only; omega, ry.2⟩ n3
          · rename_i e
            refine h1.snoc ⟨rx.1, hxy, ry.2⟩ fun u hu => ?_
            rcases List.mem_append.1 hu with hu | hu
            · have := n3 u hu; have := n2.2.1; simp only; omega
            · simp at hu; subst hu; simp only; omega
      · rw [if_neg hs]; exact h1
    · by_cases hs : sel x = true
      · rw [if_pos hs]
        rcases List.eq_nil_or_concat out with rfl | ⟨L, t, he⟩
        · rw [mrg2_nil]; simp
        · obtain rfl : out = L ++ [t] := by simpa using he
          rw [mrg2_snoc]
          split
          · intro u hu
            rcases List.mem_append.1 hu with hu | hu
            · have := h2 u (by simp [hu]); omega
            · simp at hu; subst hu; simp
          · intro u hu
            rcases List.mem_append.1 hu with hu | hu
            · have := h2 u hu; omega
            · simp at hu; subst hu; simp
      · rw [if_neg hs]
        intro t ht
        have := h2 t ht; omega
    · intro z hzy
      have added : ∀ z, memS (mrg2 out x y) z ↔ memS out z ∨ (x ≤ z ∧ z < y) := by
        intro z
        rcases List.eq_nil_or_concat out with rfl | ⟨L, t, he⟩
        · rw [mrg2_nil, memS_one]; unfold okS; simp [memS_nil]; omega
        · obtain rfl : out = L ++ [t] := by simpa using he
          have n2 := h1.init.2.1
          unfold ok2 at n2
          have htx := h2 t (by simp)
          rw [mrg2_snoc]
          split
          · rename_i e
            rw [memS_append, memS_append, memS_one, memS_one]
            unfold okS
            simp only
            constructor
            · rintro (h | h)
              · exact .inl (.inl h)
              · by_cases hq : z < t.f1
                · exact .inl (.inr ⟨⟨by omega, by omega, by omega⟩, h.2.1, hq⟩)
                · exact .inr ⟨by omega, h.2.2⟩
            · rintro ((h | h) | h)
              · exact .inl h
              · exact .inr ⟨⟨by omega, by omega, by omega⟩, h.2.1, by omega⟩
              · exact .inr ⟨⟨by omega, by omega, by omega⟩, by omega, h.2⟩
          · rw [memS_append, memS_one]
            unfold okS
            simp only
            constructor
            · rintro (h | h)
              · exact .inl h
              · exact .inr h.2
            · rintro (h | h)
              · exact .inl h
              · exact .inr ⟨⟨by omega, by omega, by omega⟩, h⟩
      by_cases hs : sel x = true
      · rw [if_pos hs, added]
        by_cases hzx : z < x
        · rw [h3 z hzx]
          exact ⟨fun h => h.resolve_right (by omega), .inl⟩
        · exact ⟨fun _ => (hz z (by omega) hzy).2 hs, fun _ => .inr ⟨by omega, hzy⟩⟩
      · rw [if_neg hs]
        by_cases hzx : z < x
        · exact h3 z hzx
        · refine ⟨fun h => absurd (lt_of_mem z h) hzx, fun h => absurd ((hz z (by omega) hzy).1 h) hs⟩

theorem of_ev (a b : List S42) (op : Int) (ha : a.length < 100000) (hb : b.length < 100000) (e : List Int) (he : e.length < 1000000) (hop : op = 1 ∨ op = 2 ∨ op = 3) :
    Ev (fun k => r02_of.l0 k a b op [] e 0) (ofW (fun x => selB op (decide (memS a x)) (decide (memS b x))) [] e) := by
  suffices ∀ d i, e.length - i = d → i ≤ e.length → ∀ out : List S42, out.length ≤ i → Ev (fun k => r02_of.l0 k a b op out e (i : Int)) (ofW (fun x => selB op (decide (memS a x)) (decide (memS b x))) out (e.drop i)) from by
    simpa using this e.length 0 rfl (Nat.zero_le _) [] (by simp)
  intro d
  induction d with
  | zero =>
    intro i hd hi out ho
    obtain rfl : i = e.length := by omega
    rw [List.drop_length]
    refine Ev.up (f := fun _ => some out) (by simpa [ofW] using Ev.now out) fun k => ?_
    simp only [r02_of.l0]
    rw [wrap_nat (by omega), if_neg (by omega)]
  | succ d ih =>
    intro i hd hi out ho
    have hlt : i < e.length := by omega
    by_cases h1 : i + 1 < e.length
    · rw [List.drop_eq_getElem_cons hlt, List.drop_eq_getElem_cons h1, ofW_two, ← List.drop_eq_getElem_cons h1]
      have j1 : ∀ s : Bool, Ev (fun k => r02_of.j1 k a b op out e (i : Int) s) (ofW (fun x => selB op (decide (memS a x)) (decide (memS b x))) (if s = true then mrg2 out e[i] e[i + 1] else out) (e.drop (i + 1))) := by
        intro s
        cases s with
        | false =>
          refine Ev.up (ih (i + 1) (by omega) (by omega) out (by omega)) fun k => ?_
          simp only [r02_of.j1]
          rw [if_neg (by simp), wrap_nat (by omega)]
        | true =>
          rw [if_pos rfl]
          have hm := mrg2_len out e[i] e[i + 1]
          have hn := ih (i + 1) (by omega) (by omega) (mrg2 out e[i] e[i + 1]) (by omega)
          refine Ev.up hn fun k => ?_
          simp only [r02_of.j1]
          rw [if_pos trivial, wrap_nat (by omega)]
          rcases List.eq_nil_or_concat out with rfl | ⟨L, t, hL⟩
          · rw [mrg2_nil]
            have w0 : wrap64 (((([] : List S42).length : Nat) : Int) - 1) = -1 := by simp [wrap64]
            rw [w0, if_neg (by omega), if_pos (by omega), if_pos (by omega), if_pos (by omega), if_pos (by omega), if_pos (by simp), rdI e i hlt, rdI e (i + 1) h1]
            rfl
          · obtain rfl : out = L ++ [t] := by simpa using hL
            have w0 : wrap64 ((((L ++ [t]).length : Nat) : Int) - 1) = (L.length : Int) := by simp at ho ⊢; unfold wrap64; omega
            have hr : rd_T42 (L ++ [t]) (L.length : Int) = t := by rw [rdT _ L.length (by simp)]; simp
            rw [w0, hr, if_pos (by omega), if_pos (by omega), if_pos (by simp; omega), if_pos (by omega), if_pos (by omega), rdI e i hlt, rdI e (i + 1) h1, mrg2_snoc]
            by_cases hq : t.f1 = e[i]
            · rw [if_pos hq, if_pos hq, if_pos (by omega), if_pos (by omega)]
              congr 1
              simp
            · rw [if_neg hq, if_neg hq, if_pos (by omega), if_pos (by omega), if_pos (by simp at ho ⊢; omega)]
      refine Ev.up (Ev.bind (In_ev a e[i] (by omega)) (f := fun k ta => (r02_In.f k b e[i]).bind fun tb => r02_of.j1 k a b op out e (i : Int) (selB op ta tb)) (Ev.bind (In_ev b e[i] (by omega)) (f := fun k tb => r02_of.j1 k a b op out e (i : Int) (selB op (decide (memS a e[i])) tb)) (j1 _))) fun k => ?_
      simp only [r02_of.l0]
      rw [wrap_nat (by omega), if_pos (by omega), if_pos (by omega), if_pos (by omega), rdI e i hlt]
      congr 1
      funext ta
      congr 1
      funext tb
      rcases hop with rfl | rfl | rfl <;> cases ta <;> cases tb <;> simp [selB]
    · rw [List.drop_eq_getElem_cons hlt, show e.drop (i + 1) = [] from List.drop_eq_nil_of_le (by omega)]
      refine Ev.up (f := fun _ => some out) (by simpa [ofW] using Ev.now out) fun k => ?_
      simp only [r02_of.l0]
      rw [wrap_nat (by omega), if_neg (by omega)]
end Go.Proofs.YtbgojgoejlhgeaaDoor.Pr
