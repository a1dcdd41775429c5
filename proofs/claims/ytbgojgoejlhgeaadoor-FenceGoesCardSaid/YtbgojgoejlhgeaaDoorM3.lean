/- What the printed Less comes to. Conditions: both lists rise; few spans. -/
import Derived.Test.YtbgojgoejlhgeaaDoorM2
import Derived.Test.YtbgojgoejlhgeaaDoorG2
namespace Go.Proofs.YtbgojgoejlhgeaaDoor.Pr
open Go.RowKit Go.Proofs.YtbgojgoejlhgeaaDoorW.PrintWords Go.Proofs.YtbgojgoejlhgeaaDoorW.PrintMore

theorem mn_min (a b : Int) : mn a b = min a b := by unfold mn; omega
theorem mx_max (a b : Int) : mx a b = max a b := by unfold mx; omega
theorem wrap_nat {n : Nat} (h : n < 8796093022209) : wrap64 ((n : Int) + 1) = ((n + 1 : Nat) : Int) := by unfold wrap64; omega
theorem rdT (l : List S42) (i : Nat) (h : i < l.length) : rd_T42 l (i : Int) = l[i] := by simp [rd_T42, List.getD_eq_getElem?_getD, h]
/-- more rounds: a step of a loop -/
theorem Ev.up {α : Type} {g f : Nat → Option α} {r : α} (k : Ev f r) (h : ∀ k, g (k + 1) = f k) : Ev g r := Ev.step h k

section
variable {T L : List S42} {out : List S42} {r : List S42}
/-- the inner loop: what of [a, b) is in none of the spans from q on -/
theorem ev_l2 (T L : List S42) (j : Int) (i : Nat) (b : Int) (hT : T.length < 1000000) (r : List S42) (d : Nat) : ∀ (out : List S42) (q : Nat) (a : Int), T.length - q = d → q ≤ T.length → out.length + d + 1 < 8796093022208 →
    Ev (fun k => ranges_Set_Less.l0 k (out ++ cut b (T.drop q) a) j L (L.length : Int) (wrap64 ((i : Int) + 1)) T) r →
    Ev (fun k => ranges_Set_Less.l2 k out j (q : Int) L (L.length : Int) (i : Int) T a b) r := by
  have fin : ∀ (out : List S42) (q : Nat) (a : Int), out.length + 1 < 8796093022208 → Ev (fun k => ranges_Set_Less.l0 k (out ++ if a < b then [(⟨a, b⟩ : S42)] else []) j L (L.length : Int) (wrap64 ((i : Int) + 1)) T) r →
      Ev (fun k => ranges_Set_Less.j4 k out j (q : Int) L (L.length : Int) (i : Int) false T a b) r := by
    intro out q a hb he
    refine Ev.up he fun k => ?_
    simp only [ranges_Set_Less.j4]
    rw [if_neg (by simp)]
    by_cases h : a < b
    · rw [if_pos h, if_pos (by omega), if_pos h]
    · rw [if_neg h, if_neg h, List.append_nil]
  induction d with
  | zero =>
    intro out q a hd hq hb he
    obtain rfl : q = T.length := by omega
    rw [List.drop_length] at he
    refine Ev.up (fin out T.length a (by omega) he) fun k => ?_
    simp only [ranges_Set_Less.l2]
    rw [if_neg (by omega)]
  | succ d ih =>
    intro out q a hd hq hb he
    have hlt : q < T.length := by omega
    rw [List.drop_eq_getElem_cons hlt] at he
    simp only [cut] at he
    by_cases hc : T[q].f0 < b
    · rw [if_pos hc] at he
      have step : Ev (fun k => ranges_Set_Less.j4 k out j (q : Int) L (L.length : Int) (i : Int) true T a b) r := by
        by_cases hd2 : T[q].f0 > a
        · rw [if_pos hd2, ← List.append_assoc] at he
          refine Ev.up (ih (out ++ [⟨a, T[q].f0⟩]) (q + 1) (min T[q].f1 b) (by omega) (by omega) (by simp; omega) he) fun k => ?_
          simp only [ranges_Set_Less.j4]
          rw [if_pos trivial, if_pos (by omega), if_pos (by omega), rdT T q hlt, if_pos hd2, if_pos (by omega), wrap_nat (by omega), mn_min]
        · rw [if_neg hd2, List.nil_append] at he
          refine Ev.up (ih out (q + 1) (min T[q].f1 b) (by omega) (by omega) (by omega) he) fun k => ?_
          simp only [ranges_Set_Less.j4]
          rw [if_pos trivial, if_pos (by omega), if_pos (by omega), rdT T q hlt, if_neg hd2, wrap_nat (by omega), mn_min]
      refine Ev.up step fun k => ?_
      simp only [ranges_Set_Less.l2]
      rw [if_pos (by omega), if_pos (by omega), rdT T q hlt, decide_eq_true hc]
    · rw [if_neg hc] at he
      refine Ev.up (fin out q a (by omega) he) fun k => ?_
      simp only [ranges_Set_Less.l2]
      rw [if_pos (by omega), if_pos (by omega), rdT T q hlt, decide_eq_false hc]

/-- the place moves on -/
theorem ev_l1 (T L : List S42) (i : Nat) (a b : Int) (hT : T.length < 1000000) (r : List S42) (d : Nat) : ∀ (out : List S42) (q : Nat), T.length - q = d → q ≤ T.length → out.length + T.length + 1 < 8796093022208 →
    (∀ p : Nat, p ≤ T.length → T.drop p = (T.drop q).dropWhile (fun t => decide (t.f1 ≤ a)) → Ev (fun k => ranges_Set_Less.l0 k (out ++ cut b (T.drop p) a) (p : Int) L (L.length : Int) (wrap64 ((i : Int) + 1)) T) r) →
    Ev (fun k => ranges_Set_Less.l1 k out (q : Int) L (L.length : Int) (i : Int) T a b) r := by
  have stop : ∀ (out : List S42) (q : Nat), q ≤ T.length → out.length + T.length + 1 < 8796093022208 → Ev (fun k => ranges_Set_Less.l0 k (out ++ cut b (T.drop q) a) (q : Int) L (L.length : Int) (wrap64 ((i : Int) + 1)) T) r →
      Ev (fun k => ranges_Set_Less.j2 k out (q : Int) L (L.length : Int) (i : Int) T a b) r := by
    intro out q hq hb he
    refine Ev.up (ev_l2 T L q i b hT r (T.length - q) out q a rfl hq (by omega) he) fun k => ?_
    simp only [ranges_Set_Less.j2]
  induction d with
  | zero =>
    intro out q hd hq hb he
    obtain rfl : q = T.length := by omega
    refine Ev.up (stop out T.length (by omega) hb (he T.length (by omega) (by simp))) fun k => ?_
    simp only [ranges_Set_Less.l1]
    rw [if_neg (by omega)]
  | succ d ih =>
    intro out q hd hq hb he
    have hlt : q < T.length := by omega
    by_cases hc : T[q].f1 ≤ a
    · refine Ev.up (ih out (q + 1) (by omega) (by omega) hb fun p hp e => he p hp ?_) fun k => ?_
      · rw [e, List.drop_eq_getElem_cons hlt, List.dropWhile_cons, if_pos (by simpa using hc)]
      · simp only [ranges_Set_Less.l1]
        rw [if_pos (by omega), if_pos (by omega), rdT T q hlt, if_pos hc, wrap_nat (by omega)]
    · refine Ev.up (stop out q hq hb (he q hq ?_)) fun k => ?_
      · rw [List.drop_eq_getElem_cons hlt, List.dropWhile_cons, if_neg (by simpa using hc)]
      · simp only [ranges_Set_Less.l1]
        rw [if_pos (by omega), if_pos (by omega), rdT T q hlt, if_neg hc]

theorem dropW_drop (T : List S42) (a a' : Int) (haa : a ≤ a') : (T.dropWhile fun t => decide (t.f1 ≤ a)).dropWhile (fun t => decide (t.f1 ≤ a')) = T.dropWhile fun t => decide (t.f1 ≤ a') := by
  induction T with
  | nil => rfl
  | cons t T ih =>
    by_cases h : t.f1 ≤ a
    · have e1 : (t :: T).dropWhile (fun t : S42 => decide (t.f1 ≤ a)) = T.dropWhile (fun t : S42 => decide (t.f1 ≤ a)) := by rw [List.dropWhile_cons, if_pos (by simpa using h)]
      have e2 : (t :: T).dropWhile (fun t : S42 => decide (t.f1 ≤ a')) = T.dropWhile (fun t : S42 => decide (t.f1 ≤ a')) := by rw [List.dropWhile_cons, if_pos (by simp; omega)]
      rw [e1, e2, ih]
    · have e1 : (t :: T).dropWhile (fun t : S42 => decide (t.f1 ≤ a)) = t :: T := by rw [List.dropWhile_cons, if_neg (by simpa using h)]
      rw [e1]
theorem cut_len (b : Int) (T : List S42) (a : Int) : (cut b T a).length ≤ T.length + 1 := by
  induction T generalizing a with
  | nil => simp only [cut]; split <;> simp
  | cons t T ih =>
    simp only [cut]
    split
    · have := ih (min t.f1 b)
      rw [List.length_append, List.length_cons]
      split <;> simp <;> omega
    · split <;> simp
theorem less_ev {T L : List S42} (hL : Norm L) (hT : T.length < 1000000) (hLl : L.length < 1000000) : Ev (fun k => ranges_Set_Less.f k L T) (lessL T L) := by
  suffices ∀ d i, L.length - i = d → i ≤ L.length → ∀ (out : List S42) (q : Nat), q ≤ T.length → out.length ≤ i * (T.length + 1) →
      (i < L.length → ∀ h : i < L.length, (T.drop q).dropWhile (fun t => decide (t.f1 ≤ L[i].f0)) = T.dropWhile (fun t => decide (t.f1 ≤ L[i].f0))) →
      Ev (fun k => ranges_Set_Less.l0 k out (q : Int) L (L.length : Int) (i : Int) T) (out ++ lessL T (L.drop i)) from by
    have h := this L.length 0 rfl (Nat.zero_le _) [] 0 (Nat.zero_le _) (by simp) (fun _ _ => by rw [List.drop_zero])
    simpa [ranges_Set_Less.f] using h
  intro d
  induction d with
  | zero =>
    intro i hd hi out q hq hb hj
    obtain rfl : i = L.length := by omega
    refine Ev.up (f := fun _ => some out) ?_ fun k => ?_
    · simpa [lessL] using Ev.now out
    · simp only [ranges_Set_Less.l0]
      rw [if_neg (by omega)]
  | succ d ih =>
    intro i hd hi out q hq hb hj
    have hlt : i < L.length := by omega
    have hbig : out.length + T.length + 1 < 8796093022208 := by
      have h1 : i * (T.length + 1) ≤ 1000000 * 1000000 := Nat.mul_le_mul (by omega) (by omega)
      omega
    have e : L.drop i = L[i] :: L.drop (i + 1) := List.drop_eq_getElem_cons hlt
    have el : lessL T (L.drop i) = cut L[i].f1 (T.dropWhile fun t => decide (t.f1 ≤ L[i].f0)) L[i].f0 ++ lessL T (L.drop (i + 1)) := by rw [e]; unfold lessL; rw [List.flatMap_cons]
    rw [el, ← List.append_assoc]
    refine Ev.up (ev_l1 T L i L[i].f0 L[i].f1 hT _ (T.length - q) out q rfl hq hbig fun p hp hpe => ?_) fun k => ?_
    · rw [hj hlt hlt] at hpe
      rw [hpe, wrap_nat (by omega)]
      refine ih (i + 1) (by omega) (by omega) _ p hp ?_ ?_
      · have h1 := cut_len L[i].f1 (T.dropWhile fun t => decide (t.f1 ≤ L[i].f0)) L[i].f0
        have h2 := List.Sublist.length_le (List.dropWhile_sublist (l := T) (fun t => decide (t.f1 ≤ L[i].f0)))
        rw [List.length_append, Nat.add_mul, Nat.one_mul]; omega
      · intro h _
        rw [hpe]
        refine dropW_drop T _ _ ?_
        have h1 := List.pairwise_iff_getElem.1 hL.up i (i + 1) hlt h (by omega)
        have h2 := (hL.ok L[i] (List.getElem_mem hlt)).2.1
        omega
    · simp only [ranges_Set_Less.l0]
      rw [if_pos (by omega), if_pos (by omega), if_pos (by omega), rdT L i hlt]
end
/-- Less: what it has that T hasn't -/
theorem less_f {T L : List S42} (hT : Norm T) (hL : Norm L) (h1 : T.length < 1000000) (h2 : L.length < 1000000) : Ev (fun k => ranges_Set_Less.f k L T) (lessL T L) ∧ Norm (lessL T L) ∧ (∀ x, memS (lessL T L) x ↔ memS L x ∧ ¬ memS T x) ∧ (lessL T L).length ≤ L.length * (T.length + 1) := by
  obtain ⟨g1, _, g3, g4⟩ := lessL_spec hT hL
  exact ⟨less_ev hL h1 h2, g1, g3, g4⟩
end Go.Proofs.YtbgojgoejlhgeaaDoor.Pr
