/- What the calls on a table do: Start. Conditions: the table lies in memory. -/
import Derived.Test.YtiagnkmiibaacaaU1
import Derived.Test.YtiagnkmiibaacaaEq
namespace Go.Proofs.Ytiagnkmiibaacaa
open Go.RowKit Go.Maps Go.ChangeMaps Go.WideMaps
def rightB (a b : Int) : Bool := decide (0 ≤ a ∧ a ≤ b ∧ b ≤ 4611686018427387904)
theorem right_any (a b : Int) (w : World) : Calls Try.prog 40 #[.agg #[.int .i64 a, .int .i64 b]] w fun e w' => e = .returned (.bool (rightB a b)) ∧ Below w.heap.size w w' := by
  by_cases h0 : 0 ≤ a
  · by_cases h1 : a ≤ b
    · have hr : rightB a b = decide (b ≤ 4611686018427387904) := by unfold rightB; simp [h0, h1]
      have H := Lib.hid hr
      clear hr
      go_enter Try.func40, Try.ntmps40
      go_wp2
      go_ret
      exact ⟨by rw [H.out]; rfl, (Below.refl _ _).alloc (Nat.le_refl _) _⟩
    · have hr : rightB a b = false := by unfold rightB; simp [h1]
      have H := Lib.hid hr
      clear hr
      go_enter Try.func40, Try.ntmps40
      go_wp2
      go_ret
      exact ⟨by rw [H.out]; rfl, (Below.refl _ _).alloc (Nat.le_refl _) _⟩
  · have hr : rightB a b = false := by unfold rightB; simp [h0]
    have H := Lib.hid hr
    clear hr
    go_enter Try.func40, Try.ntmps40
    go_wp2
    go_ret
    exact ⟨by rw [H.out]; rfl, (Below.refl _ _).alloc (Nat.le_refl _) _⟩
def tagB (s : ByteArray) (b : Bool) : Bool := s.toList == ([] : List UInt8) && (b == false)
/-- may a flight be started? -/
def startB (f : Fl) : Bool :=
  !(f.id != 0 || (f.at_ != 0 || (f.heard || (decide (f.entry < 0) || ((f.entry != 0 && tagB f.mt f.mw) || (!rightB f.fr f.upto || (f.fr == f.upto)))))))
theorem blk_below {w W : World} {b : Nat} {o : Obj} (h : w.heap[b]? = some o) (hb : Below w.heap.size w W) : W.heap[b]? = some o := by rw [hb.block b (lt_of_obj h)]; exact h
theorem tag_eq (s : ByteArray) (b : Bool) (W : World) : (binOp .eql 26 (.agg #[.string s, .bool b]) (.agg #[.string ⟨#[]⟩, .bool false])).run Try.prog W = .ok (.bool (tagB s b)) W := by
  unfold tagB
  simp only [binOp]
  simp [Op.equal, Op.maxDepth, eqTag 9998 W s ⟨#[]⟩ b false]
section
variable {F : Nat → Prop} {p m : Nat} {last : Int} {L : List FT} {N : Nat} {K : KM} {V : Int → Value} {w : World} {n : Int}
set_option maxRecDepth 100000 in
set_option maxHeartbeats 2000000 in
theorem start_bad (f : Fl) (hs : startB f = false) :
    Calls Try.prog 11 #[.pointer (some ⟨p, 0, none⟩), .agg (cF f)] w fun e w' => e = .returned (.tuple #[.int .i64 0, .int .i64 1]) ∧ Below w.heap.size w w' := by
  have tg := tag_eq f.mt f.mw
  have b1 := (Below.refl w.heap.size w).alloc (Nat.le_refl _) (.cells (cF f) 30)
  have HB := Lib.hid (b1.alloc b1.size (.cells #[.int .i64 f.fr, .int .i64 f.upto] 24))
  clear b1
  have hz := obj_new (w.alloc (.cells (cF f) 30)) (.cells #[.int .i64 f.fr, .int .i64 f.upto] 24)
  rw [show (w.alloc (.cells (cF f) 30)).heap.size = w.heap.size + 1 by simp] at hz
  have HZ := Lib.hid hz
  clear hz
  have hs2 : f.id != 0 || (f.at_ != 0 || (f.heard || (decide (f.entry < 0) || ((f.entry != 0 && tagB f.mt f.mw) || (!rightB f.fr f.upto || (f.fr == f.upto)))))) := by
    have := hs
    unfold startB at this
    simpa only [Bool.not_eq_eq_eq_not, Bool.not_false] using this
  clear hs
  obtain ⟨id, obj, fr, upto, mt, mw, nt, nw, entry, said, moment, gen, at_, heard⟩ := f
  simp only at hs2 tg HZ
  cases h1 : (id != 0) with
  | true =>
    clear hs2
    go_enter Try.func11, Try.ntmps11
    go_upto_region 2 with fail
    go_wp2_with (go_at_call 40; refine (right_any _ _ _).mono ?_; rintro e w' ⟨rfl, hb⟩; have hz := blk_below HZ.out hb; have z0 := cell_of (off := 0) (v := .int .i64 fr) hz rfl; have z1 := cell_of (off := 1) (v := .int .i64 upto) hz rfl)
    go_ret2
    first
      | exact ⟨rfl, HB.out⟩
      | exact ⟨rfl, HB.out.trans (hb.mono (HB.out.size))⟩
  | false =>
    cases h2 : (at_ != 0) with
    | true =>
      clear hs2
      go_enter Try.func11, Try.ntmps11
      go_upto_region 2 with fail
      go_wp2_with (go_at_call 40; refine (right_any _ _ _).mono ?_; rintro e w' ⟨rfl, hb⟩; have hz := blk_below HZ.out hb; have z0 := cell_of (off := 0) (v := .int .i64 fr) hz rfl; have z1 := cell_of (off := 1) (v := .int .i64 upto) hz rfl)
      go_ret2
      first
        | exact ⟨rfl, HB.out⟩
        | exact ⟨rfl, HB.out.trans (hb.mono (HB.out.size))⟩
    | false =>
      cases heard with
      | true =>
        clear hs2
        go_enter Try.func11, Try.ntmps11
        go_upto_region 2 with fail
        go_wp2_with (go_at_call 40; refine (right_any _ _ _).mono ?_; rintro e w' ⟨rfl, hb⟩; have hz := blk_below HZ.out hb; have z0 := cell_of (off := 0) (v := .int .i64 fr) hz rfl; have z1 := cell_of (off := 1) (v := .int .i64 upto) hz rfl)
        go_ret2
        first
          | exact ⟨rfl, HB.out⟩
          | exact ⟨rfl, HB.out.trans (hb.mono (HB.out.size))⟩
      | false =>
        cases h4 : decide (entry < 0) with
        | true =>
          clear hs2
          go_enter Try.func11, Try.ntmps11
          go_upto_region 2 with fail
          go_wp2_with (go_at_call 40; refine (right_any _ _ _).mono ?_; rintro e w' ⟨rfl, hb⟩; have hz := blk_below HZ.out hb; have z0 := cell_of (off := 0) (v := .int .i64 fr) hz rfl; have z1 := cell_of (off := 1) (v := .int .i64 upto) hz rfl)
          go_ret2
          first
            | exact ⟨rfl, HB.out⟩
            | exact ⟨rfl, HB.out.trans (hb.mono (HB.out.size))⟩
        | false =>
          cases h5 : (entry != 0 && tagB mt mw) with
          | true =>
            have h51 : (entry != 0) = true := (Bool.and_eq_true_iff.1 h5).1
            have h52 : tagB mt mw = true := (Bool.and_eq_true_iff.1 h5).2
            clear h5
            clear hs2
            go_enter Try.func11, Try.ntmps11
            go_upto_region 2 with fail
            go_wp2_with (go_at_call 40; refine (right_any _ _ _).mono ?_; rintro e w' ⟨rfl, hb⟩; have hz := blk_below HZ.out hb; have z0 := cell_of (off := 0) (v := .int .i64 fr) hz rfl; have z1 := cell_of (off := 1) (v := .int .i64 upto) hz rfl)
            go_ret2
            first
              | exact ⟨rfl, HB.out⟩
              | exact ⟨rfl, HB.out.trans (hb.mono (HB.out.size))⟩
          | false =>
            cases h6 : rightB fr upto with
            | false =>
              cases h51 : (entry != 0) with
              | true =>
                have h52 : tagB mt mw = false := by simpa [h51] using h5
                clear h5
                clear hs2
                go_enter Try.func11, Try.ntmps11
                go_upto_region 2 with fail
                go_wp2_with (go_at_call 40; refine (right_any _ _ _).mono ?_; rintro e w' ⟨rfl, hb⟩; have hz := blk_below HZ.out hb; have z0 := cell_of (off := 0) (v := .int .i64 fr) hz rfl; have z1 := cell_of (off := 1) (v := .int .i64 upto) hz rfl)
                go_ret2
                first
                  | exact ⟨rfl, HB.out⟩
                  | exact ⟨rfl, HB.out.trans (hb.mono (HB.out.size))⟩
              | false =>
                clear h5
                clear hs2
                go_enter Try.func11, Try.ntmps11
                go_upto_region 2 with fail
                go_wp2_with (go_at_call 40; refine (right_any _ _ _).mono ?_; rintro e w' ⟨rfl, hb⟩; have hz := blk_below HZ.out hb; have z0 := cell_of (off := 0) (v := .int .i64 fr) hz rfl; have z1 := cell_of (off := 1) (v := .int .i64 upto) hz rfl)
                go_ret2
                first
                  | exact ⟨rfl, HB.out⟩
                  | exact ⟨rfl, HB.out.trans (hb.mono (HB.out.size))⟩
            | true =>
              by_cases h7 : fr = upto
              · subst h7
                cases h51 : (entry != 0) with
                | true =>
                  have h52 : tagB mt mw = false := by simpa [h51] using h5
                  clear h5
                  clear hs2
                  go_enter Try.func11, Try.ntmps11
                  go_upto_region 2 with fail
                  go_wp2_with (go_at_call 40; refine (right_any _ _ _).mono ?_; rintro e w' ⟨rfl, hb⟩; have hz := blk_below HZ.out hb; have z0 := cell_of (off := 0) (v := .int .i64 fr) hz rfl; have z1 := cell_of (off := 1) (v := .int .i64 fr) hz rfl)
                  go_ret2
                  first
                    | exact ⟨rfl, HB.out⟩
                    | exact ⟨rfl, HB.out.trans (hb.mono (HB.out.size))⟩
                | false =>
                  clear h5
                  clear hs2
                  go_enter Try.func11, Try.ntmps11
                  go_upto_region 2 with fail
                  go_wp2_with (go_at_call 40; refine (right_any _ _ _).mono ?_; rintro e w' ⟨rfl, hb⟩; have hz := blk_below HZ.out hb; have z0 := cell_of (off := 0) (v := .int .i64 fr) hz rfl; have z1 := cell_of (off := 1) (v := .int .i64 fr) hz rfl)
                  go_ret2
                  first
                    | exact ⟨rfl, HB.out⟩
                    | exact ⟨rfl, HB.out.trans (hb.mono (HB.out.size))⟩
              · have h71 : (fr == upto) = false := by simpa using h7
                simp [h1, h2, h4, h5, h6, h71] at hs2
end
end Go.Proofs.Ytiagnkmiibaacaa
