/- What the reference's functions on a book do: taking, making, how much has to go. Conditions: the list of lines lies in memory. -/
import Derived.Test.YteadclkpoikobaaR3
namespace Go.Proofs.Yteadclkpoikobaa
open Go.RowKit Go.Maps Go.ChangeMaps Go.WideMaps

set_option maxRecDepth 100000 in
set_option maxHeartbeats 1000000 in
theorem rless_any {all share : Int} {L : List Ln} {a : Option Addr} {cap : Nat} {t : ByteArray} {v : Int} {w : World} (h : Sl w 71 a L.length 2 (flat L)) (hi : Inv all share L) (hlen : L.length < 1000000) :
    Calls Try.prog 20 #[refV all share (.slice a L.length cap), .string t, .int .i64 v] w (RPost w all share (lessL L t v) (lessE L t v)) := by
  have hm := h.max
  unfold maxLen at hm
  have o0 := (ofL_rng hi t).1
  have o1 := (ofL_rng hi t).2
  have s0 := hi.sum0
  have s1 := hi.sum
  have s2 := hi.share1
  have s3 := hi.all1
  have HI := Lib.hid hi
  have HS := Lib.hid h
  clear h hi
  have HR := RT.start (x := all) (y := share) (v := .slice a L.length cap) HS.out
  by_cases hq : okQ t v = true
  · have q := (okQ_iff t v).1 hq
    have q0 := q.2.1
    have q1 := q.2.2
    have q2 := q.1
    have q3 : okN v = true := (okN_iff v).2 ⟨q0, q1⟩
    clear q
    by_cases d0 : v ≤ ofL L t
    · have H : Hid (lessE L t v = 0) := by
        unfold Hid lessE; rw [if_neg (by simp [hq]), if_neg (by omega)]
      go_enter Try.func20, Try.ntmps20
      go_wp2_with (first | (go_at_call 31; refine (rnumber_any _ _).mono ?_; rintro e w' ⟨rfl, rfl⟩) | (go_at_call 32; refine (rof_rt HR).mono ?_; rintro e w' ⟨rfl, hr⟩))
      have hw2 : IntKind.i64.wrap (ofL L t - v) = ofL L t - v := IntWalk.i64_in _ (by omega)
      have HD := hr.step (Ch.refl _ _).drew
      go_region_held3 (fun W => W.cell? ⟨w.heap.size, 0, none⟩ = some (.int .i64 all) ∧ W.cell? ⟨w.heap.size, 1, none⟩ = some (.int .i64 share) ∧ W.cell? ⟨w.heap.size, 2, none⟩ = some (.slice a L.length cap))
        (first | exact HD.box | exact hr2.box | exact hr1.box | go_keep)
        (first
          | (go_at_call 32; refine (rof_rt HD).mono ?_; rintro e w' ⟨rfl, hr1⟩)
          | (go_at_call 33; refine (rwith_rt hlen hr1).mono ?_; rintro e w' ⟨a', cap', rfl, hsl, hr2⟩; have z0 := hr2.z0; have z1 := hr2.z1; have z2 := hr2.z2; have f0 := hr2.f0 0; have f1 := hr2.f0 1; have f2 := hr2.f0 2))
      go_wp2
      obtain ⟨p0, p1, p2, ch⟩ := hr2.out all share (.slice a' (withL L t (ofL L t - v)).length cap')
      refine bodyPost_ret (v := .tuple #[refV all share (.slice a' (withL L t (ofL L t - v)).length cap'), .int .i64 0]) (by simp [results, Try.results20, go_sem, p0, p1, p2]) rfl ⟨a', cap', ?_, ?_, ch⟩
      · rw [lessL, if_pos H.out, H.out]
      · rw [lessL, if_pos H.out]
        obtain ⟨h1, h2⟩ := hsl.out
        exact ((h1.setCell (fun b hb => by have := h2 b hb; simp; omega)).setCell (fun b hb => by have := h2 b hb; simp; omega)).setCell (fun b hb => by have := h2 b hb; simp; omega)
    · have H : Hid (lessE L t v = 4) := by
        unfold Hid lessE; rw [if_neg (by simp [hq]), if_pos (by omega)]
      go_enter Try.func20, Try.ntmps20
      go_wp2_with (first | (go_at_call 31; refine (rnumber_any _ _).mono ?_; rintro e w' ⟨rfl, rfl⟩) | (go_at_call 32; refine (rof_rt HR).mono ?_; rintro e w' ⟨rfl, hr⟩; have z0 := hr.z0; have z1 := hr.z1; have z2 := hr.z2; have f0 := hr.f0 0; have f1 := hr.f0 1; have f2 := hr.f0 2; have b0 := hr.rs.c0; have b1 := hr.rs.c1; have b2 := hr.rs.c2))
      obtain ⟨p0, p1, p2, ch⟩ := hr.out all share (.slice a L.length cap)
      refine bodyPost_ret (v := .tuple #[refV all share (.slice a L.length cap), .int .i64 4]) (by simp [results, Try.results20, go_sem, p0, p1, p2]) rfl ⟨a, cap, ?_, ?_, ch⟩
      · rw [lessL, if_neg (by rw [H.out]; decide), H.out]
      · rw [lessL, if_neg (by rw [H.out]; decide)]; exact HS.out.ch ch noF
  · have hq' : okQ t v = false := by simpa using hq
    clear hq
    have H : Hid (lessE L t v = 1) := by
      unfold Hid lessE; rw [if_pos hq']
    by_cases q2 : t.size ≤ 200
    · have q3 : okN v = false := by simpa [okQ, q2] using hq'
      go_enter Try.func20, Try.ntmps20
      go_wp2_with (go_at_call 31; refine (rnumber_any _ _).mono ?_; rintro e w' ⟨rfl, rfl⟩)
      refine bodyPost_ret (v := .tuple #[refV all share (.slice a L.length cap), .int .i64 1]) (by simp [results, Try.results20, go_sem]) rfl ⟨a, cap, ?_, ?_, ((Ch.refl _ w).alloc _).alloc _⟩
      · rw [lessL, if_neg (by rw [H.out]; decide), H.out]
      · rw [lessL, if_neg (by rw [H.out]; decide)]; exact (HS.out.alloc _).alloc _
    · go_enter Try.func20, Try.ntmps20
      go_wp2_with (go_at_call 31; refine (rnumber_any _ _).mono ?_; rintro e w' ⟨rfl, rfl⟩)
      refine bodyPost_ret (v := .tuple #[refV all share (.slice a L.length cap), .int .i64 1]) (by simp [results, Try.results20, go_sem]) rfl ⟨a, cap, ?_, ?_, ((Ch.refl _ w).alloc _).alloc _⟩
      · rw [lessL, if_neg (by rw [H.out]; decide), H.out]
      · rw [lessL, if_neg (by rw [H.out]; decide)]; exact (HS.out.alloc _).alloc _

theorem rnew_no (all share : Int) (w : World) (h : ¬ (0 ≤ share ∧ share ≤ all ∧ all ≤ 1125899906842624)) :
    Calls Try.prog 19 #[.int .i64 all, .int .i64 share] w (RPost w 0 0 [] 1) := by
  by_cases h0 : okN all = true
  · by_cases h1 : okN share = true
    · have h2 : all < share := by have := (okN_iff _).1 h0; have := (okN_iff _).1 h1; omega
      go_enter Try.func19, Try.ntmps19
      go_wp2_with (go_at_call 31; refine (rnumber_any _ _).mono ?_; rintro e w' ⟨rfl, rfl⟩)
      exact bodyPost_ret (v := .tuple #[refV 0 0 (.slice none 0 0), .int .i64 1]) (by simp [results, Try.results19, go_sem]) rfl ⟨none, 0, rfl, Sl.nil _ _ _, (Ch.refl _ w).alloc _⟩
    · have h1' : okN share = false := by simpa using h1
      clear h1 h
      go_enter Try.func19, Try.ntmps19
      go_wp2_with (go_at_call 31; refine (rnumber_any _ _).mono ?_; rintro e w' ⟨rfl, rfl⟩)
      exact bodyPost_ret (v := .tuple #[refV 0 0 (.slice none 0 0), .int .i64 1]) (by simp [results, Try.results19, go_sem]) rfl ⟨none, 0, rfl, Sl.nil _ _ _, (Ch.refl _ w).alloc _⟩
  · have h0' : okN all = false := by simpa using h0
    clear h0 h
    go_enter Try.func19, Try.ntmps19
    go_wp2_with (go_at_call 31; refine (rnumber_any _ _).mono ?_; rintro e w' ⟨rfl, rfl⟩)
    exact bodyPost_ret (v := .tuple #[refV 0 0 (.slice none 0 0), .int .i64 1]) (by simp [results, Try.results19, go_sem]) rfl ⟨none, 0, rfl, Sl.nil _ _ _, (Ch.refl _ w).alloc _⟩
theorem rnew_yes (all share : Int) (w : World) (h0 : 0 ≤ share) (h1 : share ≤ all) (h2 : all ≤ 1125899906842624) :
    Calls Try.prog 19 #[.int .i64 all, .int .i64 share] w (RPost w all share [] 0) := by
  have e0 : okN all = true := (okN_iff _).2 ⟨by omega, h2⟩
  have e1 : okN share = true := (okN_iff _).2 ⟨h0, by omega⟩
  go_enter Try.func19, Try.ntmps19
  go_wp2_with (go_at_call 31; refine (rnumber_any _ _).mono ?_; rintro e w' ⟨rfl, rfl⟩)
  exact bodyPost_ret (v := .tuple #[refV all share (.slice none 0 0), .int .i64 0]) (by simp [results, Try.results19, go_sem]) rfl ⟨none, 0, rfl, Sl.nil _ _ _, (Ch.refl _ w).alloc _⟩

theorem rfits_any {all share : Int} {L : List Ln} {a : Option Addr} {cap : Nat} {t : ByteArray} {v : Int} {w : World} (h : Sl w 71 a L.length 2 (flat L)) (hi : Inv all share L) (hlen : L.length < 1000000) :
    Calls Try.prog 25 #[refV all share (.slice a L.length cap), .string t, .int .i64 v] w fun e w' => e = .returned (.bool (decide (addE all share L t v = 0))) ∧ Ch (fun _ => False) w w' := by
  have HC := fun o => Lib.hid (radd_any (v := v) (t := t) (cap := cap) (h.alloc o) hi hlen)
  clear h hi
  go_enter Try.func25, Try.ntmps25
  go_wp2_with (go_at_call 21; refine (HC _).out.mono ?_; rintro e w' ⟨a', cap', rfl, hs, hc⟩)
  go_ret
  exact ⟨rfl, (((Ch.refl _ w).alloc _).trans hc (fun _ h _ => h)).alloc _⟩

theorem ret3 {a b c a' b' c' : Int} (h1 : a = a') (h2 : b = b') (h3 : c = c') : Ending.returned (.tuple #[.int .i64 a, .int .i64 b, .int .i64 c]) = .returned (.tuple #[.int .i64 a', .int .i64 b', .int .i64 c']) := by rw [h1, h2, h3]
/-- what 'Over' of the reference hands back -/
def OPost (w : World) (r : Int × Int × Int) (e : Ending) (w' : World) : Prop :=
  e = .returned (.tuple #[.int .i64 r.1, .int .i64 r.2.1, .int .i64 r.2.2]) ∧ Ch (fun _ => False) w w'

set_option maxRecDepth 100000 in
set_option maxHeartbeats 1000000 in
theorem rover_yes {all share : Int} {L : List Ln} {a : Option Addr} {cap : Nat} {t : ByteArray} {v own any_ : Int} {w : World} (h : Sl w 71 a L.length 2 (flat L)) (hi : Inv all share L) (hq : okQ t v = true) (d0 : v ≤ share)
    (he : overR all share L t v = (own, any_, 0)) (c1 : own = overOwn share L t v) (c2 : any_ = overAny all share L t v) :
    Calls Try.prog 24 #[refV all share (.slice a L.length cap), .string t, .int .i64 v] w (OPost w (overR all share L t v)) := by
  have o0 := (ofL_rng hi t).1
  have o1 := (ofL_rng hi t).2
  have s0 := hi.sum0
  have s1 := hi.sum
  have s2 := hi.share1
  have s3 := hi.all1
  have HI := Lib.hid hi
  have HS := Lib.hid h
  have H := Lib.hid he
  clear h hi he
  have HR := RS.start (x := all) (y := share) (v := .slice a L.length cap) HS.out
  have q := (okQ_iff t v).1 hq
  have q0 := q.2.1
  have q1 := q.2.2
  have q2 := q.1
  have q3 : okN v = true := (okN_iff v).2 ⟨q0, q1⟩
  clear q
  have b0 : ∀ s : Kept (RS w w.heap.size all share (.slice a L.length cap) a L.length (flat L)), s.W.cell? ⟨w.heap.size, 0, none⟩ = some (.int .i64 all) := fun s => s.h.c0
  have b1 : ∀ s : Kept (RS w w.heap.size all share (.slice a L.length cap) a L.length (flat L)), s.W.cell? ⟨w.heap.size, 1, none⟩ = some (.int .i64 share) := fun s => s.h.c1
  have b2 : ∀ s : Kept (RS w w.heap.size all share (.slice a L.length cap) a L.length (flat L)), s.W.cell? ⟨w.heap.size, 2, none⟩ = some (.slice a L.length cap) := fun s => s.h.c2
  have ne : Nonempty (Kept (RS w w.heap.size all share (.slice a L.length cap) a L.length (flat L))) := ⟨⟨_, HR⟩⟩
  have C1 : Hid (own = if ofL L t + v - share < 0 then 0 else ofL L t + v - share) := c1
  have C2 : Hid (any_ = if sumL L - own + v - all < 0 then 0 else sumL L - own + v - all) := by unfold Hid; rw [c2]; unfold overAny; rw [← c1]
  clear c1 c2
  go_enter Try.func24, Try.ntmps24
  go_wp2_with (go_at_call 31; refine (rnumber_any _ _).mono ?_; rintro e w' ⟨rfl, rfl⟩)
  refine region_in (RS w w.heap.size all share (.slice a L.length cap) a L.length (flat L)) (by kernel_rfl) (by kernel_rfl) (HR.step (Ch.refl _ _).drew) ?_
  repeat (go_big_quiet_step ((go_at_call 32; exact Calls.inK (rof_rs (Kept.h _)))))
  refine wpQuiet_nil ?_
  rintro _ ⟨⟨w1, hr1⟩, rfl⟩
  by_cases e0 : ofL L t + v - share < 0
  · obtain rfl : own = 0 := by have := C1.out; rw [if_pos e0] at this; exact this
    go_wp2_with fail
    refine region_in (RS w w.heap.size all share (.slice a L.length cap) a L.length (flat L)) (by kernel_rfl) (by kernel_rfl) (hr1.step (Ch.refl _ _).drew) ?_
    repeat (go_big_quiet_step ((go_at_call 34; exact Calls.inK (rsum_rs HI.out (Kept.h _)))))
    refine wpQuiet_nil ?_
    rintro _ ⟨⟨w2, hr2⟩, rfl⟩
    go_wp2
    all_goals
      go_ret3
      exact ⟨by rw [H.out, C2.out]; refine ret3 rfl ?_ rfl; dsimp only; split <;> omega, hr2.ch⟩
  · obtain rfl : own = ofL L t + v - share := by have := C1.out; rw [if_neg e0] at this; exact this
    go_wp2_with fail
    refine region_in (RS w w.heap.size all share (.slice a L.length cap) a L.length (flat L)) (by kernel_rfl) (by kernel_rfl) (hr1.step (Ch.refl _ _).drew) ?_
    repeat (go_big_quiet_step ((go_at_call 34; exact Calls.inK (rsum_rs HI.out (Kept.h _)))))
    refine wpQuiet_nil ?_
    rintro _ ⟨⟨w2, hr2⟩, rfl⟩
    go_wp2
    all_goals
      go_ret3
      exact ⟨by rw [H.out, C2.out]; refine ret3 rfl ?_ rfl; dsimp only; split <;> omega, hr2.ch⟩

theorem rover_any {all share : Int} {L : List Ln} {a : Option Addr} {cap : Nat} {t : ByteArray} {v : Int} {w : World} (h : Sl w 71 a L.length 2 (flat L)) (hi : Inv all share L) :
    Calls Try.prog 24 #[refV all share (.slice a L.length cap), .string t, .int .i64 v] w (OPost w (overR all share L t v)) := by
  by_cases hq : okQ t v = true
  · have q := (okQ_iff t v).1 hq
    have q0 := q.2.1
    have q1 := q.2.2
    have q2 := q.1
    have q3 : okN v = true := (okN_iff v).2 ⟨q0, q1⟩
    clear q
    by_cases d0 : v ≤ share
    · exact rover_yes (own := overOwn share L t v) (any_ := overAny all share L t v) h hi hq d0 (by unfold overR; rw [if_neg (by simp [hq]), if_neg (by omega)]) rfl rfl
    · have H : Hid (overR all share L t v = (0, 0, 4)) := by
        unfold Hid overR; rw [if_neg (by simp [hq]), if_pos (by omega)]
      clear h hi
      go_enter Try.func24, Try.ntmps24
      go_wp2_with (go_at_call 31; refine (rnumber_any _ _).mono ?_; rintro e w' ⟨rfl, rfl⟩)
      go_ret3
      exact ⟨by rw [H.out]; rfl, (Ch.refl _ w).alloc _⟩
  · have hq' : okQ t v = false := by simpa using hq
    clear hq h hi
    have H : Hid (overR all share L t v = (0, 0, 1)) := by
      unfold Hid overR; rw [if_pos hq']
    by_cases q2 : t.size ≤ 200
    · have q3 : okN v = false := by simpa [okQ, q2] using hq'
      go_enter Try.func24, Try.ntmps24
      go_wp2_with (go_at_call 31; refine (rnumber_any _ _).mono ?_; rintro e w' ⟨rfl, rfl⟩)
      go_ret3
      exact ⟨by rw [H.out]; rfl, (Ch.refl _ w).alloc _⟩
    · go_enter Try.func24, Try.ntmps24
      go_wp2_with (go_at_call 31; refine (rnumber_any _ _).mono ?_; rintro e w' ⟨rfl, rfl⟩)
      go_ret3
      exact ⟨by rw [H.out]; rfl, (Ch.refl _ w).alloc _⟩
end Go.Proofs.Yteadclkpoikobaa
