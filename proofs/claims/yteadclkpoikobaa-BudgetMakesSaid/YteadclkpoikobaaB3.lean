/- What the program's call Over on a book does. Conditions: the book lies in memory as New laid it. -/
import Derived.Test.YteadclkpoikobaaB2
namespace Go.Proofs.Yteadclkpoikobaa
open Go.RowKit Go.Maps Go.ChangeMaps Go.WideMaps

theorem over_nil (t : ByteArray) (v : Int) (w : World) : Calls Try.prog 12 #[.pointer none, .string t, .int .i64 v] w fun e w' => e = .returned (.tuple #[.int .i64 0, .int .i64 0, .int .i64 1]) ∧ w = w' := by
  go_enter Try.func12, Try.ntmps12
  go_wp2_with (go_at_call 26; refine (wrong_nil _ _ _).mono ?_; rintro e w' ⟨rfl, rfl⟩)
  go_ret3
  exact ⟨rfl, rfl⟩
set_option maxRecDepth 100000 in
set_option maxHeartbeats 400000 in
theorem over_any {b m n : Nat} {all share : Int} {L : List Ln} {t : ByteArray} {v : Int} {w : World} (h : BookL w b m all share L n) (ht : t.size ≤ maxLen) :
    Calls Try.prog 12 #[.pointer (some ⟨b, 0, none⟩), .string t, .int .i64 v] w fun e w' => e = .returned (.tuple #[.int .i64 (overR all share L t v).1, .int .i64 (overR all share L t v).2.1, .int .i64 (overR all share L t v).2.2]) ∧ ∃ k, w' = w.drewN k := by
  obtain ⟨⟨D, hB, r⟩, hi⟩ := h
  have hl := fun k => look_run hB r ht k
  have c0 := cell_of (off := 0) (v := .int .i64 all) hB.obj rfl
  have c1 := cell_of (off := 1) (v := .int .i64 share) hB.obj rfl
  have c2 := cell_of (off := 2) (v := .int .i64 (sumL L)) hB.obj rfl
  have c3 := cell_of (off := 3) (v := .map (some m)) hB.obj rfl
  have o0 := (ofL_rng hi t).1
  have o1 := (ofL_rng hi t).2
  have s0 := hi.sum0
  have s1 := hi.sum
  have s2 := hi.share1
  have s3 := hi.all1
  clear hB r hi
  by_cases hq : okQ t v = true
  · have q := (okQ_iff t v).1 hq
    have q0 := q.2.1
    have q1 := q.2.2
    have q2 := q.1
    clear q
    by_cases d0 : v ≤ share
    · by_cases e0 : ofL L t + v ≤ share
      · by_cases e1 : sumL L + v ≤ all
        · have H : Hid (overR all share L t v = (0, 0, 0)) := by
            unfold Hid overR overAny overOwn; rw [if_neg (by simp [hq]), if_neg (by omega)]; simp only [Prod.mk.injEq, and_true]; constructor <;> (repeat' split) <;> omega
          go_enter Try.func12, Try.ntmps12
          go_wp2_with (go_at_call 26; refine (wrong_any _ _ _ _).mono ?_; rintro e w' ⟨rfl, rfl⟩)
          go_quiet (fail)
          go_wp2_with fail
          go_quiet (fail)
          go_wp2
          go_ret3
          exact ⟨by rw [H.out]; rfl, _, by rw [World.drewN_drewN]⟩
        · have H : Hid (overR all share L t v = (0, sumL L + v - all, 0)) := by
            unfold Hid overR overAny overOwn; rw [if_neg (by simp [hq]), if_neg (by omega)]; simp only [Prod.mk.injEq, and_true]; constructor <;> (repeat' split) <;> omega
          go_enter Try.func12, Try.ntmps12
          go_wp2_with (go_at_call 26; refine (wrong_any _ _ _ _).mono ?_; rintro e w' ⟨rfl, rfl⟩)
          go_quiet (fail)
          go_wp2_with fail
          go_quiet (fail)
          go_wp2
          go_ret3
          exact ⟨by rw [H.out]; rfl, _, by rw [World.drewN_drewN]⟩
      · by_cases e1 : sumL L - (ofL L t + v - share) + v ≤ all
        · have H : Hid (overR all share L t v = (ofL L t + v - share, 0, 0)) := by
            unfold Hid overR overAny overOwn; rw [if_neg (by simp [hq]), if_neg (by omega)]; simp only [Prod.mk.injEq, and_true]; constructor <;> (repeat' split) <;> omega
          go_enter Try.func12, Try.ntmps12
          go_wp2_with (go_at_call 26; refine (wrong_any _ _ _ _).mono ?_; rintro e w' ⟨rfl, rfl⟩)
          go_quiet (fail)
          go_wp2_with fail
          go_quiet (fail)
          go_wp2
          go_ret3
          exact ⟨by rw [H.out]; rfl, _, by rw [World.drewN_drewN]⟩
        · have H : Hid (overR all share L t v = (ofL L t + v - share, sumL L - (ofL L t + v - share) + v - all, 0)) := by
            unfold Hid overR overAny overOwn; rw [if_neg (by simp [hq]), if_neg (by omega)]; simp only [Prod.mk.injEq, and_true]; constructor <;> (repeat' split) <;> omega
          go_enter Try.func12, Try.ntmps12
          go_wp2_with (go_at_call 26; refine (wrong_any _ _ _ _).mono ?_; rintro e w' ⟨rfl, rfl⟩)
          go_quiet (fail)
          go_wp2_with fail
          go_quiet (fail)
          go_wp2
          go_ret3
          exact ⟨by rw [H.out]; rfl, _, by rw [World.drewN_drewN]⟩
    · have H : Hid (overR all share L t v = (0, 0, 4)) := by
        unfold Hid overR; rw [if_neg (by simp [hq]), if_pos (by omega)]
      go_enter Try.func12, Try.ntmps12
      go_wp2_with (go_at_call 26; refine (wrong_any _ _ _ _).mono ?_; rintro e w' ⟨rfl, rfl⟩)
      go_ret3
      exact ⟨by rw [H.out]; rfl, 0, rfl⟩
  · have hq' : okQ t v = false := by simpa using hq
    clear hq
    have H : Hid (overR all share L t v = (0, 0, 1)) := by
      unfold Hid overR; rw [if_pos hq']
    go_enter Try.func12, Try.ntmps12
    go_wp2_with (go_at_call 26; refine (wrong_any _ _ _ _).mono ?_; rintro e w' ⟨rfl, rfl⟩)
    go_ret3
    exact ⟨by rw [H.out]; rfl, 0, rfl⟩
end Go.Proofs.Yteadclkpoikobaa
