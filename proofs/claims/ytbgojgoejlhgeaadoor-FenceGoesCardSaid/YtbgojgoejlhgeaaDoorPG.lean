/- With more kept, or flying, no more is lost: the plain law. Conditions: the sets rise. -/
import Derived.Test.YtbgojgoejlhgeaaDoorPre
import Derived.Test.YtbgojgoejlhgeaaDoorOr
namespace Go.Proofs.YtbgojgoejlhgeaaDoor.Pr
open Go.RowKit Go.Proofs.YtbgojgoejlhgeaaDoorW.PrintWords
/-- the state p has more kept, or flying, than o -/
structure More (o p : St) : Prop where
  head : p.head = o.head
  R : p.R = o.R
  H : ∀ z, memS o.H z → memS p.H z
  F : ∀ z, memS o.F z → memS p.F z
  turned : p.turned = o.turned
  failed : p.failed = o.failed
  again : p.again = o.again
  joins : p.joins = o.joins
theorem norm_nil {l : List S42} (h : Norm l) (hn : ∀ z, ¬ memS l z) : l = [] := h.uniq Norm.nil fun z => ⟨fun hz => absurd hz (hn z), fun hz => absurd hz (memS_nil z)⟩
section
variable {o p : St} {n m : Nat}
theorem More.want (h : More o p) (ho : NS o n) (hp : NS p m) {z : Int} (hz : memS (wantS p) z) : memS (wantS o) z := by
  rw [(want_norm hp).2.1, h.R] at hz
  rw [(want_norm ho).2.1]
  exact ⟨hz.1, fun a => hz.2.1 (h.H z a), fun a => hz.2.2 (h.F z a)⟩
theorem More.lost (h : More o p) (ho : NS o n) (hp : NS p m) {z : Int} (hz : memS (lostS p) z) : memS (lostS o) z := by
  unfold lostS at hz ⊢
  rw [h.turned, h.failed, h.joins] at hz
  split
  · rename_i hc; rw [if_pos hc] at hz; exact h.want ho hp hz
  · rename_i hc; rw [if_neg hc] at hz; exact absurd hz (memS_nil z)
theorem More.less (h : More o p) (ho : NS o n) (hp : NS p m) : lessL (lostS o) (lostS p) = [] := by
  obtain ⟨a1, _, a3, _⟩ := lessL_spec (lost_norm ho).1 (lost_norm hp).1
  exact norm_nil a1 fun z hz => ((a3 z).1 hz).2 (h.lost ho hp ((a3 z).1 hz).1)
theorem More.sure (h : More o p) (ho : NS o n) (hp : NS p m) (hs : sureS o = true) : sureS p = true := by
  have hw : wantS o = [] := of_decide_eq_true hs
  exact decide_eq_true (norm_nil (want_norm hp).1 fun z hz => by have := h.want ho hp hz; rw [hw] at this; exact memS_nil z this)
theorem More.go (h : More o p) (ho : NS o n) (hp : NS p m) (hd : decS o = 1) : decS p = 1 := by
  unfold decS at hd ⊢
  rw [h.R]
  cases hR : o.R with
  | nil => rw [hR] at hd; cases hd
  | cons x l =>
    rw [hR] at hd
    dsimp only at hd ⊢
    by_cases hA : lostS o ≠ [] ∧ o.head = false
    · rw [if_pos hA] at hd; split at hd <;> cases hd
    · rw [if_neg hA] at hd
      by_cases hB : memS o.H x.f0
      · have hA' : ¬ (lostS p ≠ [] ∧ p.head = false) := by
          rintro ⟨h1, h2⟩
          rw [h.head] at h2
          refine hA ⟨fun hn => h1 (norm_nil (lost_norm hp).1 fun z hz => ?_), h2⟩
          have := h.lost ho hp hz
          rw [hn] at this
          exact memS_nil z this
        rw [if_neg hA', if_pos (h.H _ hB)]
      · rw [if_neg hB] at hd
        split at hd
        · cases hd
        · split at hd <;> cases hd
end
theorem more_F (o : St) (l : List S42) : More o ⟨o.head, o.R, o.H, ofL (o.F ++ ofL l), o.turned, o.failed, o.again, o.joins⟩ :=
  ⟨rfl, rfl, fun _ h => h, fun z h => ((ofL_spec _).2.1 z).2 ((memS_append _ _ z).2 (.inl h)), rfl, rfl, rfl, rfl⟩
theorem more_H (o : St) (l : List S42) : More o ⟨o.head, o.R, ofL (o.H ++ ofL l), o.F, o.turned, o.failed, o.again, o.joins⟩ :=
  ⟨rfl, rfl, fun z h => ((ofL_spec _).2.1 z).2 ((memS_append _ _ z).2 (.inl h)), fun _ h => h, rfl, rfl, rfl, rfl⟩
theorem or_len {a l : List S42} (ha : a.length ≤ 12) (hl : l.length ≤ 5) : (ofL (a ++ ofL l)).length ≤ 17 := by
  have h1 := (ofL_spec (a ++ ofL l)).2.2
  have h2 := (ofL_spec l).2.2
  rw [List.length_append] at h1
  omega
theorem less_c {w : World} {a b : List S42} {A B : Option Addr} {c d : Nat} (h : Kd.C k42 w A a.length a) (hc : a.length ≤ c) (h' : Kd.C k42 w B b.length b) (hd : b.length ≤ d) (na : Norm a) (nb : Norm b) (la : a.length < 1000000) (lb : b.length < 1000000) :
    Calls Tryd.prog 30 #[.agg #[.slice A a.length c], .agg #[.slice B b.length d]] w (SetPost w (lessL b a)) := by
  obtain ⟨k, hf⟩ := (less_f nb na lb la).1.rounds
  refine (ranges_Set_Less.calls k _ _ _ _ _ _ _ w h hc h' hd hf).mono ?_
  rintro e w' ⟨v, rfl, hr, hb⟩
  obtain ⟨A, c, rfl, a, b⟩ := Kd.R_reads hr
  exact ⟨A, c, rfl, b, a, hb⟩
end Go.Proofs.YtbgojgoejlhgeaaDoor.Pr
