/- What the program's calls on a book do: adding, taking, asking how much has to go. Conditions: the book lies in memory as New laid it. -/
import Derived.Test.YteadclkpoikobaaB1
namespace Go.Proofs.Yteadclkpoikobaa
open Go.RowKit Go.Maps Go.ChangeMaps Go.WideMaps

theorem sk_ne {t k : ByteArray} (h : t ≠ k) : sk k ≠ sk t := by
  intro e
  apply h
  simp only [sk, Lit.string.injEq, Array.toList_inj] at e
  cases t; cases k; simp_all
theorem isKey (t : ByteArray) : WideAt.IsKeyLit (sk t) := trivial
theorem rel_with {D : DataW Unit} {L : List Ln} (r : Rel D L) (hD : Maps.IsMap D) (t : ByteArray) (v : Int) :
    Rel (if v = 0 then D.del (sk t) else D.put (sk t) (.lit (.int .i64 v))) (withL L t v) := by
  refine ⟨fun k => ?_, fun k => ?_⟩
  · rw [ofL_with]
    by_cases hk : t = k
    · subst hk
      rw [if_pos rfl]
      split
      · rename_i h0; rw [atKey_del_same, h0]
      · rw [atKey_put_same hD (isKey t)]
    · rw [if_neg hk, ← r.at_ k]
      split
      · rw [atKey_del_other (sk_ne hk)]
      · rw [atKey_put_other (sk_ne hk)]
  · rw [ofL_with]
    by_cases hk : t = k
    · subst hk
      rw [if_pos rfl]
      split
      · rename_i h0; rw [has_del_same, h0]; rfl
      · rename_i h0; rw [has_put_same hD (isKey t)]; simp [h0]
    · rw [if_neg hk, ← r.has k]
      split
      · rw [has_del_other (sk_ne hk)]
      · rw [has_put_other (sk_ne hk)]

theorem put_rel {b m n : Nat} {all share v : Int} {L : List Ln} {t : ByteArray} {w : World} (h : BookL w b m all share L n) (hn : n < 1000000) (ht : t.size ≤ 200) (h0 : 0 ≤ v) (h1 : v ≤ share) (h2 : sumL L - ofL L t + v ≤ all) :
    Calls Try.prog 27 #[.pointer (some ⟨b, 0, none⟩), .string t, .int .i64 v] w fun e w' => e = .returned (.tuple #[]) ∧ BookL w' b m all share (withL L t v) (n + 1) ∧ Ch (fun k => k = b ∨ k = m) w w' := by
  obtain ⟨⟨D, hB, r⟩, hi⟩ := h
  have a1 := hi.all1
  have a2 := hi.share1
  have a3 := hi.sum0
  have a4 := (ofL_rng hi t).1
  have a5 := (ofL_rng hi t).2
  have a6 := hi.sum
  have e1 : wrap64 (sumL L + wrap64 (v - ofL L t)) = sumL (withL L t v) := by
    rw [sumL_with _ _ _ hi.nodup]; unfold wrap64; omega
  have hD := hB.map.isMap
  refine (put_any b m n all share (sumL L) v (ofL L t) D t w hB (by unfold maxLen; omega) (by unfold maxLen; omega) (r.at_ t) (WalkArith.wf_i64 (by omega))).mono ?_
  rintro e w' ⟨rfl, hB', hc⟩
  rw [e1] at hB'
  exact ⟨rfl, ⟨⟨_, hB', rel_with r hD t v⟩, hi.with ht h0 h1 h2⟩, hc⟩

theorem chN (S : Nat → Prop) (w : World) (k : Nat) : Ch S w (w.drewN k) := ⟨rfl, rfl, rfl, Nat.le_refl _, fun _ _ _ => rfl⟩
theorem BookL.mono {w : World} {b m n n' : Nat} {all share : Int} {L : List Ln} (h : BookL w b m all share L n) (hn : n ≤ n') : BookL w b m all share L n' := by
  obtain ⟨⟨D, ⟨ho, hm⟩, r⟩, hi⟩ := h
  exact ⟨⟨D, ⟨ho, hm.mono hn⟩, r⟩, hi⟩
theorem add_nil (t : ByteArray) (v : Int) (w : World) : Calls Try.prog 17 #[.pointer none, .string t, .int .i64 v] w fun e w' => e = .returned (.int .i64 1) ∧ w = w' := by
  go_enter Try.func17, Try.ntmps17
  go_wp2_with (go_at_call 26; refine (wrong_nil _ _ _).mono ?_; rintro e w' ⟨rfl, rfl⟩)
  go_ret
  exact ⟨rfl, rfl⟩
set_option maxRecDepth 100000 in
set_option maxHeartbeats 400000 in
theorem add_any {b m n : Nat} {all share : Int} {L : List Ln} {t : ByteArray} {v : Int} {w : World} (h : BookL w b m all share L n) (hn : n < 1000000) (ht : t.size ≤ maxLen) :
    Calls Try.prog 17 #[.pointer (some ⟨b, 0, none⟩), .string t, .int .i64 v] w fun e w' => e = .returned (.int .i64 (addE all share L t v)) ∧ BookL w' b m all share (addL all share L t v) (n + 1) ∧ Ch (fun k => k = b ∨ k = m) w w' := by
  have hB1 := h
  obtain ⟨⟨D, hB, r⟩, hi⟩ := h
  have hl := fun k => look_run hB r ht k
  have hl0 := hl 0
  rw [World.drewN_zero] at hl0
  have c0 := cell_of (off := 0) (v := .int .i64 all) hB.obj rfl
  have c1 := cell_of (off := 1) (v := .int .i64 share) hB.obj rfl
  have c2 := cell_of (off := 2) (v := .int .i64 (sumL L)) hB.obj rfl
  have c3 := cell_of (off := 3) (v := .map (some m)) hB.obj rfl
  have o0 := (ofL_rng hi t).1
  have o1 := (ofL_rng hi t).2
  have s0 := hi.sum0
  have s1 := hi.sum
  have s2 := hi.share1
  have s3 := hi.all1
  have HB := Lib.hid hB1
  clear hB r hi hB1
  by_cases hq : okQ t v = true
  · have q := (okQ_iff t v).1 hq
    have q0 := q.2.1
    have q1 := q.2.2
    have q2 := q.1
    clear q
    by_cases d0 : ofL L t + v ≤ share
    · by_cases d1 : sumL L + v ≤ all
      · have H : Hid (addE all share L t v = 0) := by
          unfold Hid addE; rw [if_neg (by simp [hq]), if_neg (by omega)]
        go_enter Try.func17, Try.ntmps17
        go_wp2_with (go_at_call 26; refine (wrong_any _ _ _ _).mono ?_; rintro e w' ⟨rfl, rfl⟩)
        go_quiet (fail)
        go_wp2_with fail
        go_quiet (fail)
        go_wp2_with fail
        refine (put_rel (HB.out.drewN _) hn q2 (by omega) (by omega) (by omega)).mono ?_
        rintro e w' ⟨rfl, hB', hc⟩
        go_wp2
        go_ret
        refine ⟨by rw [H.out]; rfl, ?_, (chN _ w _).trans hc (fun _ h _ => h)⟩
        rw [addL, if_pos H.out, Int.add_comm]
        rw [Int.add_comm] at hB'
        exact hB'
      · have H : Hid (addE all share L t v = 5) := by
          unfold Hid addE; rw [if_neg (by simp [hq]), if_pos (by omega)]
        go_enter Try.func17, Try.ntmps17
        go_wp2_with (go_at_call 26; refine (wrong_any _ _ _ _).mono ?_; rintro e w' ⟨rfl, rfl⟩)
        go_quiet (fail)
        go_wp2_with fail
        go_quiet (fail)
        go_wp2
        go_ret
        exact ⟨by rw [H.out]; rfl, by rw [addL, if_neg (by rw [H.out]; decide)]; exact ((HB.out.drewN _).drewN _).mono (Nat.le_succ _), (chN _ _ _).trans (chN (fun k => k = b ∨ k = m) _ _) (fun _ h _ => h)⟩
    · have H : Hid (addE all share L t v = 5) := by
        unfold Hid addE; rw [if_neg (by simp [hq]), if_pos (by omega)]
      go_enter Try.func17, Try.ntmps17
      go_wp2_with (go_at_call 26; refine (wrong_any _ _ _ _).mono ?_; rintro e w' ⟨rfl, rfl⟩)
      go_quiet (fail)
      go_wp2
      go_ret
      exact ⟨by rw [H.out]; rfl, by rw [addL, if_neg (by rw [H.out]; decide)]; exact (HB.out.drewN _).mono (Nat.le_succ _), chN _ _ _⟩
  · have hq' : okQ t v = false := by simpa using hq
    clear hq
    have H : Hid (addE all share L t v = 1) := by
      unfold Hid addE; rw [if_pos hq']
    go_enter Try.func17, Try.ntmps17
    go_wp2_with (go_at_call 26; refine (wrong_any _ _ _ _).mono ?_; rintro e w' ⟨rfl, rfl⟩)
    go_ret
    exact ⟨by rw [H.out]; rfl, by rw [addL, if_neg (by rw [H.out]; decide)]; exact HB.out.mono (Nat.le_succ _), Ch.refl _ _⟩

theorem less_nil (t : ByteArray) (v : Int) (w : World) : Calls Try.prog 14 #[.pointer none, .string t, .int .i64 v] w fun e w' => e = .returned (.int .i64 1) ∧ w = w' := by
  go_enter Try.func14, Try.ntmps14
  go_wp2_with (go_at_call 26; refine (wrong_nil _ _ _).mono ?_; rintro e w' ⟨rfl, rfl⟩)
  go_ret
  exact ⟨rfl, rfl⟩
set_option maxRecDepth 100000 in
set_option maxHeartbeats 400000 in
theorem less_any {b m n : Nat} {all share : Int} {L : List Ln} {t : ByteArray} {v : Int} {w : World} (h : BookL w b m all share L n) (hn : n < 1000000) (ht : t.size ≤ maxLen) :
    Calls Try.prog 14 #[.pointer (some ⟨b, 0, none⟩), .string t, .int .i64 v] w fun e w' => e = .returned (.int .i64 (lessE L t v)) ∧ BookL w' b m all share (lessL L t v) (n + 1) ∧ Ch (fun k => k = b ∨ k = m) w w' := by
  have hB1 := h
  obtain ⟨⟨D, hB, r⟩, hi⟩ := h
  have hl := fun k => look_run hB r ht k
  have hl0 := hl 0
  rw [World.drewN_zero] at hl0
  have c3 := cell_of (off := 3) (v := .map (some m)) hB.obj rfl
  have o0 := (ofL_rng hi t).1
  have o1 := (ofL_rng hi t).2
  have s0 := hi.sum0
  have s1 := hi.sum
  have s2 := hi.share1
  have s3 := hi.all1
  have HB := Lib.hid hB1
  clear hB r hi hB1
  by_cases hq : okQ t v = true
  · have q := (okQ_iff t v).1 hq
    have q0 := q.2.1
    have q1 := q.2.2
    have q2 := q.1
    clear q
    by_cases d0 : v ≤ ofL L t
    · have H : Hid (lessE L t v = 0) := by
        unfold Hid lessE; rw [if_neg (by simp [hq]), if_neg (by omega)]
      go_enter Try.func14, Try.ntmps14
      go_wp2_with (first | (go_at_call 26; refine (wrong_any _ _ _ _).mono ?_; rintro e w' ⟨rfl, rfl⟩) | (go_at_call 27; refine (put_rel (HB.out.drewN 0) hn q2 (by omega) (by omega) (by omega)).mono ?_; rintro e w' ⟨rfl, hB', hc⟩))
      go_ret
      refine ⟨by rw [H.out]; rfl, ?_, hc⟩
      rw [lessL, if_pos H.out]
      exact hB'
    · have H : Hid (lessE L t v = 4) := by
        unfold Hid lessE; rw [if_neg (by simp [hq]), if_pos (by omega)]
      go_enter Try.func14, Try.ntmps14
      go_wp2_with (go_at_call 26; refine (wrong_any _ _ _ _).mono ?_; rintro e w' ⟨rfl, rfl⟩)
      go_ret
      exact ⟨by rw [H.out]; rfl, by rw [lessL, if_neg (by rw [H.out]; decide)]; exact (HB.out).mono (Nat.le_succ _), Ch.refl _ _⟩
  · have hq' : okQ t v = false := by simpa using hq
    clear hq
    have H : Hid (lessE L t v = 1) := by
      unfold Hid lessE; rw [if_pos hq']
    go_enter Try.func14, Try.ntmps14
    go_wp2_with (go_at_call 26; refine (wrong_any _ _ _ _).mono ?_; rintro e w' ⟨rfl, rfl⟩)
    go_ret
    exact ⟨by rw [H.out]; rfl, by rw [lessL, if_neg (by rw [H.out]; decide)]; exact HB.out.mono (Nat.le_succ _), Ch.refl _ _⟩
end Go.Proofs.Yteadclkpoikobaa
