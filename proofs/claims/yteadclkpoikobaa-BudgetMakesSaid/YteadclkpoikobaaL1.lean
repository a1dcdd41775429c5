/- The statements' own helpers: which acts are played; a book behind acts. Conditions: the acts lie in memory. -/
import Derived.Test.YteadclkpoikobaaW
import Derived.Test.YteadclkpoikobaaR4
namespace Go.Proofs.Yteadclkpoikobaa
open Go.RowKit Go.Maps Go.ChangeMaps Go.WideMaps

/-- a slice that came in and reads as a list of cells: n elements -/
structure Ag (w : World) (a : Option Addr) (n : Nat) (size : Nat) (xs : List Value) : Prop where
  len : xs.length = n * size
  max : n ≤ maxLen
  cells : 0 < n → ∃ (g o : Nat), a = some ⟨g, o, none⟩ ∧ g < w.heap.size ∧ ∀ (j : Nat) (u : Value), xs[j]? = some u → w.cell? ⟨g, o + j, none⟩ = some u
theorem Ag.ch {w w' : World} {a : Option Addr} {n size : Nat} {xs : List Value} (h : Ag w a n size xs) (c : Ch (fun _ => False) w w') : Ag w' a n size xs :=
  ⟨h.len, h.max, fun hn => by
    obtain ⟨g, o, e, hg, hc⟩ := h.cells hn
    exact ⟨g, o, e, Nat.lt_of_lt_of_le hg c.size, fun j u hj => (c.cell (p := ⟨g, o + j, none⟩) hg (fun h => h)).trans (hc j u hj)⟩⟩

/-- an act: whose, how many, fewer? -/
abbrev Ac := ByteArray × Int × Bool
def flatA : List Ac → List Value
  | [] => []
  | x :: r => .string x.1 :: .int .i64 x.2.1 :: .bool x.2.2 :: flatA r
theorem flatA_length (L : List Ac) : (flatA L).length = L.length * 3 := by
  induction L with
  | nil => rfl
  | cons x r ih => simp [flatA, ih]; omega
theorem flatA_get (L : List Ac) (k : Nat) (h : k < L.length) : (flatA L)[k * 3]? = some (.string L[k].1) ∧ (flatA L)[k * 3 + 1]? = some (.int .i64 L[k].2.1) ∧ (flatA L)[k * 3 + 2]? = some (.bool L[k].2.2) := by
  induction L generalizing k with
  | nil => simp at h
  | cons x r ih =>
    cases k with
    | zero => simp [flatA]
    | succ k =>
      have e0 : (k + 1) * 3 = k * 3 + 1 + 1 + 1 := by omega
      obtain ⟨h0, h1, h2⟩ := ih k (by simpa using h)
      rw [e0]
      have e1 : k * 3 + 1 + 1 + 1 + 1 = (k * 3 + 1) + 1 + 1 + 1 := by omega
      have e2 : k * 3 + 1 + 1 + 1 + 2 = (k * 3 + 2) + 1 + 1 + 1 := by omega
      rw [e1, e2]
      simp only [flatA, List.getElem?_cons_succ, List.getElem_cons_succ]
      exact ⟨h0, h1, h2⟩

/-- are all names short, and are there few acts? -/
def shortA (A : List Ac) : Bool := A.all fun x => decide (x.1.size ≤ 300)
def smallA (A : List Ac) : Bool := shortA A && decide (A.length ≤ 60)
theorem shortA_take {A : List Ac} {k : Nat} (h : k < A.length) (h1 : shortA (A.take k) = true) (h2 : A[k].1.size ≤ 300) : shortA (A.take (k + 1)) = true := by
  unfold shortA at *
  rw [List.take_succ_eq_append_getElem h, List.all_append, h1]
  simp [h2]

set_option maxHeartbeats 400000 in
theorem small_any {A : List Ac} {a : Option Addr} {cap : Nat} {w : World} (h : Ag w a A.length 3 (flatA A)) :
    Calls Try.prog 10 #[.slice a A.length cap] w fun e w' => e = .returned (.bool (smallA A)) ∧ Ch (fun _ => False) w w' := by
  have hm := h.max
  unfold maxLen at hm
  have HA := Lib.hid h
  clear h
  go_enter Try.func10, Try.ntmps10
  go_wp2
  go_loopw [7, 4] (fun i _ wr => ∃ k : Nat, k ≤ A.length ∧ i = .int .i64 k ∧ Hid (shortA (A.take k) = true) ∧ Ch (fun _ => False) w wr) (fun i _ _ => A.length - (intOf i).toNat)
  case atStart => exact ⟨0, Nat.zero_le _, rfl, by simp [Hid, shortA], Ch.refl _ _⟩
  case round =>
    obtain ⟨k, hk, rfl, hs, hc⟩ := hrel
    by_cases hlt : k < A.length
    · obtain ⟨g, o, rfl, hg, hcells⟩ := (HA.out.ch hc).cells (by omega)
      obtain ⟨e0, e1, e2⟩ := flatA_get A k hlt
      have d0 := hcells _ _ e0
      have d1 := hcells _ _ e1
      have d2 := hcells _ _ e2
      rw [← Nat.add_assoc] at d1 d2
      clear hcells e0 e1 e2
      have HC := Lib.hid hc
      clear hc
      by_cases h3 : A[k].1.size ≤ 300
      · have HT := Lib.hid (shortA_take hlt hs.out h3)
        go_wp2
        go_roundw
        case rel => exact ⟨k + 1, by omega, by go_num, HT, HC.out.alloc _⟩
        case measure => simp [intOf]; omega
      · have HF : Hid (smallA A = false) := by
          unfold Hid smallA shortA
          rw [Bool.and_eq_false_iff]; left
          rw [List.all_eq_false]
          exact ⟨A[k], List.getElem_mem hlt, by simpa using h3⟩
        go_wp2
        go_ret
        exact ⟨by rw [HF.out]; rfl, HC.out.alloc _⟩
    · obtain rfl : k = A.length := by omega
      have hs' : Hid (shortA A = true) := by have := hs.out; rw [List.take_length] at this; exact this
      go_wp2
      go_ret
      exact ⟨by unfold smallA; rw [hs'.out]; simp; omega, hc⟩

/-- an act on the lines -/
def stepL (all share : Int) (L : List Ln) (x : Ac) : List Ln := if x.2.2 = true then lessL L x.1 x.2.1 else addL all share L x.1 x.2.1
def playL (all share : Int) (A : List Ac) : List Ln := A.foldl (stepL all share) []
theorem Inv.step {all share : Int} {L : List Ln} (h : Inv all share L) (x : Ac) : Inv all share (stepL all share L x) := by
  unfold stepL; split
  · exact h.less _ _
  · exact h.add _ _
theorem length_less (L : List Ln) (t : ByteArray) (n : Int) : (lessL L t n).length ≤ L.length + 1 := by
  unfold lessL; split
  · exact length_with _ _ _
  · omega
theorem length_add (all share : Int) (L : List Ln) (t : ByteArray) (n : Int) : (addL all share L t n).length ≤ L.length + 1 := by
  unfold addL; split
  · exact length_with _ _ _
  · omega
theorem length_step (all share : Int) (L : List Ln) (x : Ac) : (stepL all share L x).length ≤ L.length + 1 := by
  unfold stepL; split
  · exact length_less _ _ _
  · exact length_add _ _ _ _ _
theorem playL_succ (all share : Int) (A : List Ac) (k : Nat) (h : k < A.length) : playL all share (A.take (k + 1)) = stepL all share (playL all share (A.take k)) A[k] := by
  unfold playL; rw [List.take_succ_eq_append_getElem h, List.foldl_append]; rfl
theorem Inv.play {all share : Int} (h : Inv all share []) (A : List Ac) : Inv all share (playL all share A) := by
  unfold playL
  suffices ∀ (A : List Ac) (L : List Ln), Inv all share L → Inv all share (A.foldl (stepL all share) L) from this A [] h
  intro A
  induction A with
  | nil => exact fun L h => h
  | cons x r ih => exact fun L h => ih _ (h.step x)
theorem length_play (all share : Int) (A : List Ac) : (playL all share A).length ≤ A.length := by
  unfold playL
  suffices ∀ (A : List Ac) (L : List Ln), (A.foldl (stepL all share) L).length ≤ L.length + A.length from by have := this A []; simpa using this
  intro A
  induction A with
  | nil => intro L; simp
  | cons x r ih => intro L; have := ih (stepL all share L x); have := length_step all share L x; simp only [List.foldl_cons, List.length_cons] at *; omega

/-- both books in memory: the program's at b and m, the reference's boxed at block X; the empty slot of the result at block R -/
structure PS (w : World) (b m X R : Nat) (all share : Int) (L : List Ln) (n : Nat) (W : World) : Prop where
  book : BookL W b m all share L n
  box : ∃ a' cap', W.heap[X]? = some (.cells #[.int .i64 all, .int .i64 share, .slice a' L.length cap'] 32) ∧ Sl W 71 a' L.length 2 (flat L)
  slot : W.heap[R]? = some (.cells #[.int .i64 0, .int .i64 0, .slice none 0 0] 32)
  ch : Ch (fun _ => False) w W
  far : w.heap.size ≤ b ∧ w.heap.size ≤ m ∧ w.heap.size ≤ X ∧ w.heap.size ≤ R ∧ X ≠ R

theorem BookL.obj_ne {w : World} {b m n : Nat} {all share : Int} {L : List Ln} (h : BookL w b m all share L n) {g : Nat} {cur : Array Value} {e : TypeId} {z : Nat × Nat} (hg : w.heap[g]? = some (.cells cur e z)) (he : e ≠ 57) : ¬ (g = b ∨ g = m) := by
  obtain ⟨⟨D, ⟨ho, hm⟩, _⟩, _⟩ := h
  rintro (rfl | rfl)
  · rw [ho] at hg; cases hg; exact he rfl
  · obtain ⟨es, clock, hb, _⟩ := hm
    rw [hb] at hg; cases hg

/-- behind a call of the program's on the book -/
theorem PS.booked {w : World} {b m X R n : Nat} {all share : Int} {L : List Ln} {W W' : World} (h : PS w b m X R all share L n W) (c : Ch (fun k => k = b ∨ k = m) W W') :
    (∃ a' cap', W'.heap[X]? = some (.cells #[.int .i64 all, .int .i64 share, .slice a' L.length cap'] 32) ∧ Sl W' 71 a' L.length 2 (flat L)) ∧ W'.heap[R]? = some (.cells #[.int .i64 0, .int .i64 0, .slice none 0 0] 32) ∧ Ch (fun _ => False) w W' := by
  obtain ⟨a', cap', hx, hs⟩ := h.box
  refine ⟨⟨a', cap', c.obj hx (h.book.obj_ne hx (by decide)), hs.chT c (fun g cur z hg _ => h.book.obj_ne hg (by decide))⟩, c.obj h.slot (h.book.obj_ne h.slot (by decide)), h.ch.trans c ?_⟩
  intro k hk hl
  have := h.far
  omega
end Go.Proofs.Yteadclkpoikobaa
