/- A thousand askers, one fetch: the walk of the statement FlightOne. Conditions: the arguments lie in memory. -/
import Derived.Test.YtiagnkmiibaacaaO1
namespace Go.Proofs.Ytiagnkmiibaacaa
open Go.RowKit Go.Maps Go.ChangeMaps Go.WideMaps Go.Sort
def fewF (f : Fl) : Prop := f.obj.size ≤ 40 ∧ f.mt.size ≤ 40 ∧ f.nt.size ≤ 40
instance (f : Fl) : Decidable (fewF f) := by unfold fewF; exact inferInstance
/-- each once, in order -/
def onceL (l : List Int) : List Int := l.foldl (fun S x => if S.contains x then S else S ++ [x]) []
theorem onceL_snoc (l : List Int) (x : Int) : onceL (l ++ [x]) = if (onceL l).contains x then onceL l else onceL l ++ [x] := by unfold onceL; rw [List.foldl_append]; rfl
theorem onceL_len (l : List Int) : (onceL l).length ≤ l.length := by
  suffices ∀ k, k ≤ l.length → (onceL (l.take k)).length ≤ k from by have := this l.length (Nat.le_refl _); rwa [List.take_length] at this
  intro k
  induction k with
  | zero => intro _; simp [onceL]
  | succ k ih =>
    intro hk
    rw [take_snocF l k hk, onceL_snoc]
    have := ih (by omega)
    split
    · omega
    · rw [List.length_append]; simp; omega
theorem below_ch {F : Nat → Prop} {W w w' : World} (b : Below W.heap.size W w) (c : Ch F w w') (h : ∀ k, F k → W.heap.size ≤ k) : Below W.heap.size W w' :=
  (((Ch.of_below b rfl).mono (T := fun k => W.heap.size ≤ k) (fun _ h _ => h.elim)).trans c (fun k hk _ => h k hk)).below (fun _ h => h) (Nat.le_refl _)
def one (f : Fl) (l : List Int) : List FT := [⟨{ f with id := 1, at_ := f.fr }, f.upto, l⟩]
theorem one_find (f : Fl) (l : List Int) : find (one f l) 1 = some ⟨{ f with id := 1, at_ := f.fr }, f.upto, l⟩ := rfl
theorem one_add (f : Fl) (l : List Int) (x : Int) : upd (one f l) 1 (addW x) = one f (l ++ [x]) := rfl
theorem one_drop (f : Fl) (l : List Int) : dropL (one f l) 1 = [] := rfl
set_option maxRecDepth 100000 in
set_option maxHeartbeats 4000000 in
theorem one_many {W : World} {A : Option Addr} {c : Nat} {l : List Int} {f : Fl} (h : ¬ (l.length ≤ 200 ∧ fewF f)) : Calls Try.prog 3 #[.slice A l.length c, .agg (cF f)] W fun e w' => e = .returned (.bool true) ∧ Below W.heap.size W w' := by
  have b1 := Lib.hid ((Below.refl W.heap.size W).alloc (Nat.le_refl _) (.cells (cF f) 30))
  by_cases h1 : l.length ≤ 200
  · have h1' : ¬ ((l.length : Int) > 200) := by omega
    have g1 : (l.length : Int) ≤ 200 := by omega
    by_cases h2 : f.obj.size ≤ 40
    · have g2 : (f.obj.size : Int) ≤ 40 := by omega
      by_cases h3 : f.mt.size ≤ 40
      · have g3 : (f.mt.size : Int) ≤ 40 := by omega
        by_cases h4 : f.nt.size ≤ 40
        · exact absurd ⟨h1, h2, h3, h4⟩ h
        · have g4 : 40 < (f.nt.size : Int) := by omega
          clear h h1 h2 h3 h4
          go_enter Try.func3, Try.ntmps3
          go_wp2_with (go_at_call 9; refine (awake_any _).mono ?_; rintro e w' ⟨rfl, hb⟩)
          go_ret
          exact ⟨rfl, b1.out.trans (hb.mono b1.out.size)⟩
      · have g3 : 40 < (f.mt.size : Int) := by omega
        clear h h1 h2 h3
        go_enter Try.func3, Try.ntmps3
        go_wp2_with (go_at_call 9; refine (awake_any _).mono ?_; rintro e w' ⟨rfl, hb⟩)
        go_ret
        exact ⟨rfl, b1.out.trans (hb.mono b1.out.size)⟩
    · have g2 : 40 < (f.obj.size : Int) := by omega
      clear h h1 h2
      go_enter Try.func3, Try.ntmps3
      go_wp2_with (go_at_call 9; refine (awake_any _).mono ?_; rintro e w' ⟨rfl, hb⟩)
      go_ret
      exact ⟨rfl, b1.out.trans (hb.mono b1.out.size)⟩
  · have g1 : 200 < (l.length : Int) := by omega
    clear h h1
    go_enter Try.func3, Try.ntmps3
    go_wp2_with (go_at_call 9; refine (awake_any _).mono ?_; rintro e w' ⟨rfl, hb⟩)
    go_ret
    exact ⟨rfl, b1.out.trans (hb.mono b1.out.size)⟩
end Go.Proofs.Ytiagnkmiibaacaa
