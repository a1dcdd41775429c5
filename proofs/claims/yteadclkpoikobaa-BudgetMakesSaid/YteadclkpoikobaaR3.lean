/- What the reference's functions on a book do: adding, taking. Conditions: the list of lines lies in memory. -/
import Derived.Test.YteadclkpoikobaaR2
namespace Go.Proofs.Yteadclkpoikobaa
open Go.RowKit Go.Maps Go.ChangeMaps Go.WideMaps

/-- the boxed book, and the empty slot of the result behind it -/
structure RT (w : World) (x y : Int) (v : Value) (a : Option Addr) (n : Nat) (xs : List Value) (W : World) : Prop where
  rs : RS w w.heap.size x y v a n xs W
  slot : W.heap[w.heap.size + 1]? = some (.cells #[.int .i64 0, .int .i64 0, .slice none 0 0] 32)
section
variable {w : World} {x y : Int} {v : Value} {a : Option Addr} {n : Nat} {xs : List Value} {W W' : World}
theorem RT.step (h : RT w x y v a n xs W) (c : Ch (fun _ => False) W W') : RT w x y v a n xs W' := ⟨h.rs.step c, c.obj h.slot (fun h => h)⟩
theorem RT.start (h : Sl w 71 a n 2 xs) : RT w x y v a n xs ((w.alloc (.cells #[.int .i64 x, .int .i64 y, v] 32)).alloc (.cells #[.int .i64 0, .int .i64 0, .slice none 0 0] 32)) :=
  ⟨(RS.start h).alloc _, by have := obj_new (w.alloc (.cells #[.int .i64 x, .int .i64 y, v] 32)) (.cells #[.int .i64 0, .int .i64 0, .slice none 0 0] 32); simpa using this⟩
/-- what the loads and the stores of a region ask -/
def Cells (w : World) (x y : Int) (v : Value) (W : World) : Prop :=
  W.cell? ⟨w.heap.size, 0, none⟩ = some (.int .i64 x) ∧ W.cell? ⟨w.heap.size, 1, none⟩ = some (.int .i64 y) ∧ W.cell? ⟨w.heap.size, 2, none⟩ = some v ∧
  W.cell? ⟨w.heap.size + 1, 0, none⟩ = some (.int .i64 0) ∧ W.cell? ⟨w.heap.size + 1, 1, none⟩ = some (.int .i64 0) ∧ W.cell? ⟨w.heap.size + 1, 2, none⟩ = some (.slice none 0 0) ∧
  W.frozen? ⟨w.heap.size + 1, 0, none⟩ = false ∧ W.frozen? ⟨w.heap.size + 1, 1, none⟩ = false ∧ W.frozen? ⟨w.heap.size + 1, 2, none⟩ = false
theorem RT.cells (h : RT w x y v a n xs W) : W.cell? ⟨w.heap.size, 0, none⟩ = some (.int .i64 x) ∧ W.cell? ⟨w.heap.size, 1, none⟩ = some (.int .i64 y) ∧ W.cell? ⟨w.heap.size, 2, none⟩ = some v ∧
    W.cell? ⟨w.heap.size + 1, 0, none⟩ = some (.int .i64 0) ∧ W.cell? ⟨w.heap.size + 1, 1, none⟩ = some (.int .i64 0) ∧ W.cell? ⟨w.heap.size + 1, 2, none⟩ = some (.slice none 0 0) ∧
    W.frozen? ⟨w.heap.size + 1, 0, none⟩ = false ∧ W.frozen? ⟨w.heap.size + 1, 1, none⟩ = false ∧ W.frozen? ⟨w.heap.size + 1, 2, none⟩ = false ∧ RT w x y v a n xs W :=
  ⟨h.rs.c0, h.rs.c1, h.rs.c2, cell_of h.slot rfl, cell_of h.slot rfl, cell_of h.slot rfl, frozen_of h.slot, frozen_of h.slot, frozen_of h.slot, h⟩
theorem RT.box (h : RT w x y v a n xs W) : W.cell? ⟨w.heap.size, 0, none⟩ = some (.int .i64 x) ∧ W.cell? ⟨w.heap.size, 1, none⟩ = some (.int .i64 y) ∧ W.cell? ⟨w.heap.size, 2, none⟩ = some v := ⟨h.rs.c0, h.rs.c1, h.rs.c2⟩
theorem RT.z0 (h : RT w x y v a n xs W) : W.cell? ⟨w.heap.size + 1, 0, none⟩ = some (.int .i64 0) := cell_of h.slot rfl
theorem RT.z1 (h : RT w x y v a n xs W) : W.cell? ⟨w.heap.size + 1, 1, none⟩ = some (.int .i64 0) := cell_of h.slot rfl
theorem RT.z2 (h : RT w x y v a n xs W) : W.cell? ⟨w.heap.size + 1, 2, none⟩ = some (.slice none 0 0) := cell_of h.slot rfl
theorem RT.f0 (h : RT w x y v a n xs W) (j : Nat) : W.frozen? ⟨w.heap.size + 1, j, none⟩ = false := frozen_of h.slot
/-- the slot read as the result -/
theorem RT.out (h : RT w x y v a n xs W) (p q : Int) (u : Value) :
    let F := ((W.setCell ⟨w.heap.size + 1, 0, none⟩ (.int .i64 p)).setCell ⟨w.heap.size + 1, 1, none⟩ (.int .i64 q)).setCell ⟨w.heap.size + 1, 2, none⟩ u
    F.cell? ⟨w.heap.size + 1, 0, none⟩ = some (.int .i64 p) ∧ F.cell? ⟨w.heap.size + 1, 1, none⟩ = some (.int .i64 q) ∧ F.cell? ⟨w.heap.size + 1, 2, none⟩ = some u ∧ Ch (fun _ => False) w F := by
  intro F
  have o : F.heap[w.heap.size + 1]? = some (.cells #[.int .i64 p, .int .i64 q, u] 32) := obj_setCell (obj_setCell (obj_setCell h.slot))
  exact ⟨cell_of o rfl, cell_of o rfl, cell_of o rfl, ((h.rs.ch.setCell (.inr (by simp)) _).setCell (.inr (by simp)) _).setCell (.inr (by simp)) _⟩
end
theorem rof_rt {w : World} {all share : Int} {L : List Ln} {a : Option Addr} {cap : Nat} {t : ByteArray} {W : World} (h : RT w all share (.slice a L.length cap) a L.length (flat L) W) :
    Calls Try.prog 32 #[refV all share (.slice a L.length cap), .string t] W fun e W' => e = .returned (.int .i64 (ofL L t)) ∧ RT w all share (.slice a L.length cap) a L.length (flat L) W' :=
  (rof_any h.rs.sl).mono fun _ _ ⟨he, hc⟩ => ⟨he, h.step hc⟩
theorem rsum_rt {w : World} {all share : Int} {L : List Ln} {a : Option Addr} {cap : Nat} {W : World} (hi : Inv all share L) (h : RT w all share (.slice a L.length cap) a L.length (flat L) W) :
    Calls Try.prog 34 #[refV all share (.slice a L.length cap)] W fun e W' => e = .returned (.int .i64 (sumL L)) ∧ RT w all share (.slice a L.length cap) a L.length (flat L) W' :=
  (rsum_any h.rs.sl (fun x hx => (hi.rng x hx).1) (Int.le_trans hi.sum hi.all1)).mono fun _ _ ⟨he, hc⟩ => ⟨he, h.step hc⟩
theorem rwith_rt {w : World} {all share : Int} {L : List Ln} {a : Option Addr} {cap : Nat} {t : ByteArray} {v : Int} {W : World} (hlen : L.length < 1000000) (h : RT w all share (.slice a L.length cap) a L.length (flat L) W) :
    Calls Try.prog 33 #[refV all share (.slice a L.length cap), .string t, .int .i64 v] W fun e W' => ∃ a' cap', e = .returned (refV all share (.slice a' (withL L t v).length cap')) ∧ Hid (Sl W' 71 a' (withL L t v).length 2 (flat (withL L t v)) ∧ ∀ b, (Value.slice a' (withL L t v).length cap').ownBlock = some b → w.heap.size + 2 ≤ b) ∧ RT w all share (.slice a L.length cap) a L.length (flat L) W' :=
  (rwith_any h.rs.sl hlen).mono fun _ _ ⟨u, he, hown, hc⟩ => by
    obtain ⟨a', cap', rfl, hs⟩ := sl_of_row hown
    exact ⟨a', cap', he, ⟨hs, fun b hb => by have := (hown.lt b hb).1; have := lt_of_obj h.slot; omega⟩, h.step hc⟩

/-- a slice that reads as a list stays what it is while a block that is not its own is written -/
theorem Sl.setCell {w : World} {e : TypeId} {a : Option Addr} {n size cap : Nat} {xs : List Value} (h : Sl w e a n size xs) {p : Addr} {u : Value} (hp : ∀ b, (Value.slice a n cap).ownBlock = some b → b ≠ p.block) : Sl (w.setCell p u) e a n size xs :=
  h.chT (S := fun b => b = p.block) ((Ch.refl (fun b => b = p.block) w).setCell (p := p) (.inl rfl) u) (fun g _ _ _ ha => by subst ha; exact hp g rfl)

/-- what a call of the reference hands back: a book with these lines, and a number -/
def RPost (w : World) (all share : Int) (L : List Ln) (c : Int) (e : Ending) (w' : World) : Prop :=
  ∃ a' cap', e = .returned (.tuple #[refV all share (.slice a' L.length cap'), .int .i64 c]) ∧ Sl w' 71 a' L.length 2 (flat L) ∧ Ch (fun _ => False) w w'

set_option maxRecDepth 100000 in
set_option maxHeartbeats 1000000 in
theorem radd_any {all share : Int} {L : List Ln} {a : Option Addr} {cap : Nat} {t : ByteArray} {v : Int} {w : World} (h : Sl w 71 a L.length 2 (flat L)) (hi : Inv all share L) (hlen : L.length < 1000000) :
    Calls Try.prog 21 #[refV all share (.slice a L.length cap), .string t, .int .i64 v] w (RPost w all share (addL all share L t v) (addE all share L t v)) := by
  have hm := h.max
  unfold maxLen at hm
  have o0 := (ofL_rng hi t).1
  have o1 := (ofL_rng hi t).2
  have s0 := hi.sum0
  have s1 := hi.sum
  have s2 := hi.share1
  have s3 := hi.all1
  have HI := Lib.hid hi
  have HS := Lib.hid h
  clear h hi
  have HR := RT.start (x := all) (y := share) (v := .slice a L.length cap) HS.out
  by_cases hq : okQ t v = true
  · have q := (okQ_iff t v).1 hq
    have q0 := q.2.1
    have q1 := q.2.2
    have q2 := q.1
    have q3 : okN v = true := (okN_iff v).2 ⟨q0, q1⟩
    clear q
    by_cases d0 : v ≤ share - ofL L t
    · by_cases d1 : v ≤ all - sumL L
      · have H : Hid (addE all share L t v = 0) := by
          unfold Hid addE; rw [if_neg (by simp [hq]), if_neg (by omega)]
        have hd1 : decide (all - sumL L < v) = false := by simpa using d1
        have hd0 : decide (share - ofL L t < v) = false := by simpa using d0
        go_enter Try.func21, Try.ntmps21
        go_wp2_with (go_at_call 31; refine (rnumber_any _ _).mono ?_; rintro e w' ⟨rfl, rfl⟩)
        have hw0 : IntKind.i64.wrap (share - ofL L t) = share - ofL L t := IntWalk.i64_in _ (by omega)
        have hw1 : IntKind.i64.wrap (all - sumL L) = all - sumL L := IntWalk.i64_in _ (by omega)
        have hw2 : IntKind.i64.wrap (ofL L t + v) = ofL L t + v := IntWalk.i64_in _ (by omega)
        have HD := HR.step (Ch.refl _ _).drew
        go_region_held3 (fun W => W.cell? ⟨w.heap.size, 0, none⟩ = some (.int .i64 all) ∧ W.cell? ⟨w.heap.size, 1, none⟩ = some (.int .i64 share) ∧ W.cell? ⟨w.heap.size, 2, none⟩ = some (.slice a L.length cap))
          (first | exact HD.box | exact hr.box | exact hr1.box | go_keep)
          (first
            | (go_at_call 32; refine (rof_rt HD).mono ?_; rintro e w' ⟨rfl, hr1⟩)
            | (go_at_call 34; refine (rsum_rt HI.out hr1).mono ?_; rintro e w' ⟨rfl, hr⟩))
        go_wp2_with fail
        have HD := hr.step (Ch.refl _ _).drew
        go_region_held3 (fun W => W.cell? ⟨w.heap.size, 0, none⟩ = some (.int .i64 all) ∧ W.cell? ⟨w.heap.size, 1, none⟩ = some (.int .i64 share) ∧ W.cell? ⟨w.heap.size, 2, none⟩ = some (.slice a L.length cap))
          (first | exact HD.box | exact hr2.box | exact hr1.box | go_keep)
          (first
            | (go_at_call 32; refine (rof_rt HD).mono ?_; rintro e w' ⟨rfl, hr1⟩)
            | (go_at_call 33; refine (rwith_rt hlen hr1).mono ?_; rintro e w' ⟨a', cap', rfl, hsl, hr2⟩; have z0 := hr2.z0; have z1 := hr2.z1; have z2 := hr2.z2; have f0 := hr2.f0 0; have f1 := hr2.f0 1; have f2 := hr2.f0 2))
        go_wp2
        obtain ⟨p0, p1, p2, ch⟩ := hr2.out all share (.slice a' (withL L t (ofL L t + v)).length cap')
        refine bodyPost_ret (v := .tuple #[refV all share (.slice a' (withL L t (ofL L t + v)).length cap'), .int .i64 0]) (by simp [results, Try.results21, go_sem, p0, p1, p2]) rfl ⟨a', cap', ?_, ?_, ch⟩
        · rw [addL, if_pos H.out, H.out]
        · rw [addL, if_pos H.out]
          obtain ⟨h1, h2⟩ := hsl.out
          exact ((h1.setCell (fun b hb => by have := h2 b hb; simp; omega)).setCell (fun b hb => by have := h2 b hb; simp; omega)).setCell (fun b hb => by have := h2 b hb; simp; omega)
      · have H : Hid (addE all share L t v = 5) := by
          unfold Hid addE; rw [if_neg (by simp [hq]), if_pos (by omega)]
        have hd1 : decide (all - sumL L < v) = true := by simp; omega
        have hd0 : decide (share - ofL L t < v) = false := by simpa using d0
        go_enter Try.func21, Try.ntmps21
        go_wp2_with (go_at_call 31; refine (rnumber_any _ _).mono ?_; rintro e w' ⟨rfl, rfl⟩)
        have hw0 : IntKind.i64.wrap (share - ofL L t) = share - ofL L t := IntWalk.i64_in _ (by omega)
        have hw1 : IntKind.i64.wrap (all - sumL L) = all - sumL L := IntWalk.i64_in _ (by omega)
        have HD := HR.step (Ch.refl _ _).drew
        go_region_held3 (fun W => W.cell? ⟨w.heap.size, 0, none⟩ = some (.int .i64 all) ∧ W.cell? ⟨w.heap.size, 1, none⟩ = some (.int .i64 share) ∧ W.cell? ⟨w.heap.size, 2, none⟩ = some (.slice a L.length cap))
          (first | exact HD.box | exact hr.box | exact hr1.box | go_keep)
          (first
            | (go_at_call 32; refine (rof_rt HD).mono ?_; rintro e w' ⟨rfl, hr1⟩)
            | (go_at_call 34; refine (rsum_rt HI.out hr1).mono ?_; rintro e w' ⟨rfl, hr⟩))
        clear hw0 hw1
        have z0 := hr.z0
        have z1 := hr.z1
        have z2 := hr.z2
        have f0 := hr.f0 0
        have f1 := hr.f0 1
        have f2 := hr.f0 2
        have b0 := hr.rs.c0
        have b1 := hr.rs.c1
        have b2 := hr.rs.c2
        go_wp2
        obtain ⟨p0, p1, p2, ch⟩ := hr.out all share (.slice a L.length cap)
        refine bodyPost_ret (v := .tuple #[refV all share (.slice a L.length cap), .int .i64 5]) (by simp [results, Try.results21, go_sem, p0, p1, p2]) rfl ⟨a, cap, ?_, ?_, ch⟩
        · rw [addL, if_neg (by rw [H.out]; decide), H.out]
        · rw [addL, if_neg (by rw [H.out]; decide)]; exact HS.out.ch ch noF
    · have H : Hid (addE all share L t v = 5) := by
        unfold Hid addE; rw [if_neg (by simp [hq]), if_pos (by omega)]
      have hd0 : decide (share - ofL L t < v) = true := by simp; omega
      go_enter Try.func21, Try.ntmps21
      go_wp2_with (go_at_call 31; refine (rnumber_any _ _).mono ?_; rintro e w' ⟨rfl, rfl⟩)
      have hw0 : IntKind.i64.wrap (share - ofL L t) = share - ofL L t := IntWalk.i64_in _ (by omega)
      have HD := HR.step (Ch.refl _ _).drew
      have b0 : ∀ s : Kept (RT w all share (.slice a L.length cap) a L.length (flat L)), s.W.cell? ⟨w.heap.size, 0, none⟩ = some (.int .i64 all) := fun s => s.h.rs.c0
      have b1 : ∀ s : Kept (RT w all share (.slice a L.length cap) a L.length (flat L)), s.W.cell? ⟨w.heap.size, 1, none⟩ = some (.int .i64 share) := fun s => s.h.rs.c1
      have b2 : ∀ s : Kept (RT w all share (.slice a L.length cap) a L.length (flat L)), s.W.cell? ⟨w.heap.size, 2, none⟩ = some (.slice a L.length cap) := fun s => s.h.rs.c2
      have ne : Nonempty (Kept (RT w all share (.slice a L.length cap) a L.length (flat L))) := ⟨⟨_, HD⟩⟩
      refine region_in (RT w all share (.slice a L.length cap) a L.length (flat L)) (by kernel_rfl) (by kernel_rfl) HD ?_
      repeat (go_big_quiet_step ((go_at_call 32; exact Calls.inK (rof_rt (Kept.h _)))))
      refine wpQuiet_nil ?_
      rintro _ ⟨⟨w', hr1⟩, rfl⟩
      clear b0 b1 b2
      clear hw0
      have z0 := hr1.z0
      have z1 := hr1.z1
      have z2 := hr1.z2
      have f0 := hr1.f0 0
      have f1 := hr1.f0 1
      have f2 := hr1.f0 2
      have b0 := hr1.rs.c0
      have b1 := hr1.rs.c1
      have b2 := hr1.rs.c2
      go_wp2
      obtain ⟨p0, p1, p2, ch⟩ := hr1.out all share (.slice a L.length cap)
      refine bodyPost_ret (v := .tuple #[refV all share (.slice a L.length cap), .int .i64 5]) (by simp [results, Try.results21, go_sem, p0, p1, p2]) rfl ⟨a, cap, ?_, ?_, ch⟩
      · rw [addL, if_neg (by rw [H.out]; decide), H.out]
      · rw [addL, if_neg (by rw [H.out]; decide)]; exact HS.out.ch ch noF
  · have hq' : okQ t v = false := by simpa using hq
    clear hq
    have H : Hid (addE all share L t v = 1) := by
      unfold Hid addE; rw [if_pos hq']
    by_cases q2 : t.size ≤ 200
    · have q3 : okN v = false := by simpa [okQ, q2] using hq'
      go_enter Try.func21, Try.ntmps21
      go_wp2_with (go_at_call 31; refine (rnumber_any _ _).mono ?_; rintro e w' ⟨rfl, rfl⟩)
      refine bodyPost_ret (v := .tuple #[refV all share (.slice a L.length cap), .int .i64 1]) (by simp [results, Try.results21, go_sem]) rfl ⟨a, cap, ?_, ?_, ((Ch.refl _ w).alloc _).alloc _⟩
      · rw [addL, if_neg (by rw [H.out]; decide), H.out]
      · rw [addL, if_neg (by rw [H.out]; decide)]; exact (HS.out.alloc _).alloc _
    · go_enter Try.func21, Try.ntmps21
      go_wp2_with (go_at_call 31; refine (rnumber_any _ _).mono ?_; rintro e w' ⟨rfl, rfl⟩)
      refine bodyPost_ret (v := .tuple #[refV all share (.slice a L.length cap), .int .i64 1]) (by simp [results, Try.results21, go_sem]) rfl ⟨a, cap, ?_, ?_, ((Ch.refl _ w).alloc _).alloc _⟩
      · rw [addL, if_neg (by rw [H.out]; decide), H.out]
      · rw [addL, if_neg (by rw [H.out]; decide)]; exact (HS.out.alloc _).alloc _
end Go.Proofs.Yteadclkpoikobaa
