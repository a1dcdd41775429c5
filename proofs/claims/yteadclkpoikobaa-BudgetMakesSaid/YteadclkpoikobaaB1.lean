/- What the program's calls on a book do: the small ones. Conditions: the book lies in memory as New laid it. -/
import Derived.Test.YteadclkpoikobaaBk
import Derived.Test.YteadclkpoikobaaPl
import Derived.Deep.QuietTactic
import Derived.BigQuiet
namespace Go.Proofs.Yteadclkpoikobaa
open Go.RowKit Go.Maps Go.ChangeMaps Go.WideMaps

theorem count_any (n : Int) (w : World) : Calls Try.prog 30 #[.int .i64 n] w fun e w' => e = .returned (.bool (okN n)) ∧ w = w' := by
  by_cases h0 : 0 ≤ n
  · by_cases h1 : n ≤ 1125899906842624
    · have hr : okN n = true := by simp [okN, h0, h1]
      have H := Lib.hid hr
      clear hr
      go_enter Try.func30, Try.ntmps30
      go_wp2
      go_ret
      exact ⟨by rw [H.out]; simp, rfl⟩
    · have hr : okN n = false := by simp [okN, h1]
      have H := Lib.hid hr
      clear hr
      go_enter Try.func30, Try.ntmps30
      go_wp2
      go_ret
      exact ⟨by rw [H.out]; simp, rfl⟩
  · have hr : okN n = false := by simp [okN, h0]
    have H := Lib.hid hr
    clear hr
    go_enter Try.func30, Try.ntmps30
    go_wp2
    go_ret
    exact ⟨by rw [H.out]; simp, rfl⟩

theorem wrong_nil (t : ByteArray) (n : Int) (w : World) : Calls Try.prog 26 #[.pointer none, .string t, .int .i64 n] w fun e w' => e = .returned (.bool true) ∧ w = w' := by
  go_enter Try.func26, Try.ntmps26
  go_wp2
  go_ret
  exact ⟨rfl, rfl⟩
theorem wrong_any (b : Nat) (t : ByteArray) (n : Int) (w : World) : Calls Try.prog 26 #[.pointer (some ⟨b, 0, none⟩), .string t, .int .i64 n] w fun e w' => e = .returned (.bool (!okQ t n)) ∧ w = w' := by
  by_cases h0 : okN n = true
  · by_cases h1 : t.size ≤ 200
    · have H : Hid (okQ t n = true) := by simp [Hid, okQ, h0, h1]
      go_enter Try.func26, Try.ntmps26
      go_wp2_with (go_at_call 30; refine (count_any _ _).mono ?_; rintro e w' ⟨rfl, rfl⟩)
      go_ret
      exact ⟨by rw [H.out]; simp; omega, rfl⟩
    · have H : Hid (okQ t n = false) := by simp [Hid, okQ, h0, h1]
      go_enter Try.func26, Try.ntmps26
      go_wp2_with (go_at_call 30; refine (count_any _ _).mono ?_; rintro e w' ⟨rfl, rfl⟩)
      go_ret
      exact ⟨by rw [H.out]; simp; omega, rfl⟩
  · have h0' : okN n = false := by simpa using h0
    clear h0
    have H : Hid (okQ t n = false) := by simp [Hid, okQ, h0']
    go_enter Try.func26, Try.ntmps26
    go_wp2_with (go_at_call 30; refine (count_any _ _).mono ?_; rintro e w' ⟨rfl, rfl⟩)
    go_ret
    exact ⟨by rw [H.out]; simp, rfl⟩

/-- the map's datum is the list of lines -/
structure Rel (D : DataW Unit) (L : List Ln) : Prop where
  at_ : ∀ k : ByteArray, D.atKey (sk k) (.lit (.int .i64 0)) = .lit (.int .i64 (ofL L k))
  has : ∀ k : ByteArray, Maps.has D (sk k) = decide (ofL L k ≠ 0)

/-- a book at block b, its map at block m: the lines L, at most n entries -/
structure BookL (w : World) (b m : Nat) (all share : Int) (L : List Ln) (n : Nat) : Prop where
  mem : ∃ D, BookAt w b m all share (sumL L) D n ∧ Rel D L
  inv : Inv all share L

theorem look_run {w : World} {b m n : Nat} {all share sum : Int} {D : DataW Unit} {L : List Ln} (h : BookAt w b m all share sum D n) (r : Rel D L) {t : ByteArray} (ht : t.size ≤ maxLen) (k : Nat) :
    (Instr.lookup 55 (.map (some m)) (.string t) false).run Try.prog (w.drewN k) = .ok (.int .i64 (ofL L t)) (w.drewN k) := by
  have hm : (w.drewN k).ownsMap Try.prog 9 El m n D := h.map
  obtain ⟨c, hr, hat, _⟩ := hm.lookup_int law9 Try.underlying55 Try.underlying2 (zero2 _) (keyOf_string_mk (P := Try.prog) Try.underlying9 ht)
  have e := r.at_ t
  unfold sk at e
  rw [hat] at e
  cases e
  exact hr

theorem BookL.drewN {w : World} {b m n : Nat} {all share : Int} {L : List Ln} (h : BookL w b m all share L n) (k : Nat) : BookL (w.drewN k) b m all share L n := by
  obtain ⟨⟨D, ⟨ho, hm⟩, r⟩, hi⟩ := h
  exact ⟨⟨D, ⟨ho, hm⟩, r⟩, hi⟩
theorem BookL.ch {w w' : World} {S : Nat → Prop} {b m n : Nat} {all share : Int} {L : List Ln} (h : BookL w b m all share L n) (c : Ch S w w') (hb : ¬ S b) (hm : ¬ S m) : BookL w' b m all share L n := by
  obtain ⟨⟨D, ⟨ho, hmm⟩, r⟩, hi⟩ := h
  exact ⟨⟨D, ⟨c.obj ho hb, c.ownsMap hmm hm⟩, r⟩, hi⟩
theorem BookL.lt {w : World} {b m n : Nat} {all share : Int} {L : List Ln} (h : BookL w b m all share L n) : b < w.heap.size ∧ m < w.heap.size := by
  obtain ⟨⟨D, ⟨ho, hmm⟩, r⟩, hi⟩ := h
  exact ⟨lt_of_obj ho, hmm.lt⟩

theorem of_nil (t : ByteArray) (w : World) : Calls Try.prog 16 #[.pointer none, .string t] w fun e w' => e = .returned (.int .i64 0) ∧ w = w' := by
  go_enter Try.func16, Try.ntmps16
  go_wp2
  go_ret
  exact ⟨rfl, rfl⟩
theorem of_any {b m n : Nat} {all share : Int} {L : List Ln} {t : ByteArray} {w : World} (h : BookL w b m all share L n) (ht : t.size ≤ maxLen) :
    Calls Try.prog 16 #[.pointer (some ⟨b, 0, none⟩), .string t] w fun e w' => e = .returned (.int .i64 (ofL L t)) ∧ w = w' := by
  obtain ⟨⟨D, hB, r⟩, _⟩ := h
  have hl : (Instr.lookup 55 (.map (some m)) (.string t) false).run Try.prog w = .ok (.int .i64 (ofL L t)) w := look_run hB r ht 0
  have c3 := cell_of (off := 3) (v := .map (some m)) hB.obj rfl
  clear hB r
  go_enter Try.func16, Try.ntmps16
  go_wp2
  go_ret
  exact ⟨rfl, rfl⟩
theorem all_nil (w : World) : Calls Try.prog 23 #[.pointer none] w fun e w' => e = .returned (.int .i64 0) ∧ w = w' := by
  go_enter Try.func23, Try.ntmps23
  go_wp2
  go_ret
  exact ⟨rfl, rfl⟩
theorem all_any {b m n : Nat} {all share : Int} {L : List Ln} {w : World} (h : BookL w b m all share L n) :
    Calls Try.prog 23 #[.pointer (some ⟨b, 0, none⟩)] w fun e w' => e = .returned (.int .i64 (sumL L)) ∧ w = w' := by
  obtain ⟨⟨D, hB, r⟩, _⟩ := h
  have c2 := cell_of (off := 2) (v := .int .i64 (sumL L)) hB.obj rfl
  clear hB r
  go_enter Try.func23, Try.ntmps23
  go_wp2
  go_ret
  exact ⟨rfl, rfl⟩

theorem rel_empty : Rel (.map []) [] := ⟨fun _ => rfl, fun _ => by simp [Maps.has, ofL]⟩
theorem new_no (all share : Int) (w : World) (h : ¬ (0 ≤ share ∧ share ≤ all ∧ all ≤ 1125899906842624)) :
    Calls Try.prog 18 #[.int .i64 all, .int .i64 share] w fun e w' => e = .returned (.tuple #[.pointer none, .int .i64 1]) ∧ w = w' := by
  by_cases h0 : okN all = true
  · by_cases h1 : okN share = true
    · have h2 : all < share := by have := (okN_iff _).1 h0; have := (okN_iff _).1 h1; omega
      go_enter Try.func18, Try.ntmps18
      go_wp2_with (go_at_call 30; refine (count_any _ _).mono ?_; rintro e w' ⟨rfl, rfl⟩)
      go_ret2
      exact ⟨rfl, rfl⟩
    · have h1' : okN share = false := by simpa using h1
      clear h1 h
      go_enter Try.func18, Try.ntmps18
      go_wp2_with (go_at_call 30; refine (count_any _ _).mono ?_; rintro e w' ⟨rfl, rfl⟩)
      go_ret2
      exact ⟨rfl, rfl⟩
  · have h0' : okN all = false := by simpa using h0
    clear h0 h
    go_enter Try.func18, Try.ntmps18
    go_wp2_with (go_at_call 30; refine (count_any _ _).mono ?_; rintro e w' ⟨rfl, rfl⟩)
    go_ret2
    exact ⟨rfl, rfl⟩
theorem new_yes (all share : Int) (w : World) (h0 : 0 ≤ share) (h1 : share ≤ all) (h2 : all ≤ 1125899906842624) :
    Calls Try.prog 18 #[.int .i64 all, .int .i64 share] w fun e w' => ∃ b m, e = .returned (.tuple #[.pointer (some ⟨b, 0, none⟩), .int .i64 0]) ∧ w.heap.size ≤ b ∧ w.heap.size ≤ m ∧ BookL w' b m all share [] 0 ∧ Ch (fun _ => False) w w' := by
  have e0 : okN all = true := (okN_iff _).2 ⟨by omega, h2⟩
  have e1 : okN share = true := (okN_iff _).2 ⟨h0, by omega⟩
  have hi := Lib.hid (Inv.nil h0 h1 h2)
  have hmm := @run_makeMap Try.prog
  go_enter Try.func18, Try.ntmps18
  go_wp2_with (go_at_call 30; refine (count_any _ _).mono ?_; rintro e w' ⟨rfl, rfl⟩)
  go_ret2
  exact ⟨w.heap.size + 1, w.heap.size, rfl, by omega, Nat.le_refl _, ⟨⟨_, ⟨by have := obj_new (w.alloc (.map #[] 0)) (.cells #[.int .i64 all, .int .i64 share, .int .i64 0, .map (some w.heap.size)] 57); simpa [sumL] using this, (World.ownsMap_made w Try.prog 9 El).alloc _⟩, rel_empty⟩, hi.out⟩, ((Ch.refl _ w).alloc _).alloc _⟩

/-- the quiet form: a call that only reads -/
theorem quiet {f : FuncId} {args : Array Value} {w : World} {n : Nat} {v : Value} (h : Calls Try.prog f args (w.drewN n) fun e w' => e = .returned v ∧ w.drewN n = w') :
    Calls Try.prog f args (w.drewN n) fun e w'' => e = .returned v ∧ ∃ m, w'' = w.drewN m := h.mono fun _ _ ⟨he, hm⟩ => ⟨he, n, hm.symm⟩

theorem fits_nil (t : ByteArray) (v : Int) (w : World) : Calls Try.prog 13 #[.pointer none, .string t, .int .i64 v] w fun e w' => e = .returned (.bool false) ∧ ∃ k, w' = w.drewN k := by
  go_enter Try.func13, Try.ntmps13
  go_wp2_with fail
  go_quiet ((go_at_call 26; exact quiet (wrong_nil _ _ _)))
  go_wp2
  go_ret
  exact ⟨rfl, _, rfl⟩
theorem fits_any {b m n : Nat} {all share : Int} {L : List Ln} {t : ByteArray} {v : Int} {w : World} (h : BookL w b m all share L n) (ht : t.size ≤ maxLen) :
    Calls Try.prog 13 #[.pointer (some ⟨b, 0, none⟩), .string t, .int .i64 v] w fun e w' => e = .returned (.bool (decide (addE all share L t v = 0))) ∧ ∃ k, w' = w.drewN k := by
  obtain ⟨⟨D, hB, r⟩, hi⟩ := h
  have hl := fun k => look_run hB r ht k
  have c0 := cell_of (off := 0) (v := .int .i64 all) hB.obj rfl
  have c1 := cell_of (off := 1) (v := .int .i64 share) hB.obj rfl
  have c2 := cell_of (off := 2) (v := .int .i64 (sumL L)) hB.obj rfl
  have c3 := cell_of (off := 3) (v := .map (some m)) hB.obj rfl
  have o0 := (ofL_rng hi t).1
  have o1 := (ofL_rng hi t).2
  have s0 := hi.sum0
  have s1 := hi.sum
  have s2 := hi.share1
  have s3 := hi.all1
  clear hB r hi
  by_cases hq : okQ t v = true
  · have q0 := ((okQ_iff t v).1 hq).2.1
    have q1 := ((okQ_iff t v).1 hq).2.2
    by_cases d0 : ofL L t + v ≤ share
    · by_cases d1 : sumL L + v ≤ all
      · have H : Hid (addE all share L t v = 0) := by
          unfold Hid addE; rw [if_neg (by simp [hq]), if_neg (by omega)]
        go_enter Try.func13, Try.ntmps13
        go_wp2_with fail
        go_quiet ((go_at_call 26; exact quiet (wrong_any _ _ _ _)))
        go_wp2
        go_ret
        exact ⟨by rw [H.out]; simp, _, rfl⟩
      · have H : Hid (¬ addE all share L t v = 0) := by
          unfold Hid addE; rw [if_neg (by simp [hq]), if_pos (by omega)]; decide
        have hd : decide (sumL L + v ≤ all) = false := by simpa using d1
        clear d1
        go_enter Try.func13, Try.ntmps13
        go_wp2_with fail
        go_quiet ((go_at_call 26; exact quiet (wrong_any _ _ _ _)))
        go_wp2
        go_ret
        exact ⟨by rw [decide_eq_false H.out]; simp, _, rfl⟩
    · have H : Hid (¬ addE all share L t v = 0) := by
        unfold Hid addE; rw [if_neg (by simp [hq]), if_pos (by omega)]; decide
      have hd : decide (ofL L t + v ≤ share) = false := by simpa using d0
      clear d0
      go_enter Try.func13, Try.ntmps13
      go_wp2_with fail
      go_quiet ((go_at_call 26; exact quiet (wrong_any _ _ _ _)))
      go_wp2
      go_ret
      exact ⟨by rw [decide_eq_false H.out]; simp, _, rfl⟩
  · have hq' : okQ t v = false := by simpa using hq
    clear hq
    have H : Hid (¬ addE all share L t v = 0) := by
      unfold Hid addE; rw [if_pos hq']; decide
    go_enter Try.func13, Try.ntmps13
    go_wp2_with fail
    go_quiet ((go_at_call 26; exact quiet (wrong_any _ _ _ _)))
    go_wp2
    go_ret
    exact ⟨by rw [decide_eq_false H.out]; simp, _, rfl⟩
end Go.Proofs.Yteadclkpoikobaa
