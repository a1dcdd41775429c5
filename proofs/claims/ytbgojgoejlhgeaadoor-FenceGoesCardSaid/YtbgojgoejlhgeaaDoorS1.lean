/- A state with rising sets, and what is asked, lost, sure and decided of it. Conditions: none. -/
import Derived.Test.YtbgojgoejlhgeaaDoorM3
namespace Go.Proofs.YtbgojgoejlhgeaaDoor.Pr
open Go.RowKit Go.Proofs.YtbgojgoejlhgeaaDoorW.PrintWords
instance (l : List S42) (x : Int) : Decidable (memS l x) := by unfold memS okS; exact inferInstance
/-- a state with rising sets -/
structure St where
  head : Bool
  R : List S42
  H : List S42
  F : List S42
  turned : Bool
  failed : Bool
  again : Int
  joins : Bool
structure NS (s : St) (n : Nat) : Prop where
  r : Norm s.R
  h : Norm s.H
  f : Norm s.F
  lr : s.R.length ≤ n
  lh : s.H.length ≤ n
  lf : s.F.length ≤ n
def wantS (s : St) : List S42 := lessL s.F (lessL s.H s.R)
def lostS (s : St) : List S42 := if s.turned = true ∨ s.failed = true ∨ s.joins = false then wantS s else []
def sureS (s : St) : Bool := decide (wantS s = [])
def decS (s : St) : Int :=
  match s.R with
  | [] => 6
  | x :: _ => if lostS s ≠ [] ∧ s.head = false then (if s.again > 0 then 4 else 5) else if memS s.H x.f0 then 1 else if memS s.F x.f0 then 2 else if lostS s ≠ [] then 5 else 3
theorem mul_le {a b n m : Nat} (h1 : a ≤ n) (h2 : b ≤ m) : a * (b + 1) ≤ n * (m + 1) := Nat.mul_le_mul h1 (by omega)
theorem want_norm {s : St} {n : Nat} (h : NS s n) : Norm (wantS s) ∧ (∀ x, memS (wantS s) x ↔ memS s.R x ∧ ¬ memS s.H x ∧ ¬ memS s.F x) ∧ (wantS s).length ≤ n * (n + 1) * (n + 1) := by
  obtain ⟨a1, _, a3, a4⟩ := lessL_spec h.h h.r
  obtain ⟨b1, _, b3, b4⟩ := lessL_spec h.f a1
  refine ⟨b1, fun x => ?_, ?_⟩
  · unfold wantS; rw [b3, a3, and_assoc]
  · exact Nat.le_trans b4 (Nat.mul_le_mul (Nat.le_trans a4 (mul_le h.lr h.lh)) (Nat.add_le_add_right h.lf 1))
theorem lost_norm {s : St} {n : Nat} (h : NS s n) : Norm (lostS s) ∧ (lostS s).length ≤ n * (n + 1) * (n + 1) := by
  unfold lostS
  split
  · exact ⟨(want_norm h).1, (want_norm h).2.2⟩
  · exact ⟨Norm.nil, by simp⟩
end Go.Proofs.YtbgojgoejlhgeaaDoor.Pr
