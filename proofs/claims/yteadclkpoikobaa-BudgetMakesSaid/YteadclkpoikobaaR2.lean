/- What the reference's functions on a book do: writing. Conditions: the list of lines lies in memory. -/
import Derived.Test.YteadclkpoikobaaR1
import Derived.Deep.RegionHeld3
import Derived.Deep.AppendLies
namespace Go.Proofs.Yteadclkpoikobaa
open Go.RowKit Go.Maps Go.ChangeMaps Go.WideMaps

theorem Sl.chT {w w' : World} {e : TypeId} {S : Nat → Prop} {a : Option Addr} {n size : Nat} {xs : List Value} (h : Sl w e a n size xs) (c : Ch S w w') (hS : ∀ g cur z, w.heap[g]? = some (.cells cur e z) → a = some ⟨g, 0, none⟩ → ¬ S g) : Sl w' e a n size xs :=
  ⟨h.len, h.max, fun hn => by
    obtain ⟨g, cur, z, ha, hg, hc⟩ := h.row hn
    exact ⟨g, cur, z, ha, c.obj hg (hS g cur z hg ha), hc⟩⟩
theorem Sl.ch {w w' : World} {e : TypeId} {S : Nat → Prop} {a : Option Addr} {n size : Nat} {xs : List Value} (h : Sl w e a n size xs) (c : Ch S w w') (hS : ∀ b, ¬ S b) : Sl w' e a n size xs := h.chT c (fun g _ _ _ _ => hS g)
theorem noF : ∀ b : Nat, ¬ (fun _ : Nat => False) b := fun _ h => h
theorem Sl.alloc {w : World} {e : TypeId} {a : Option Addr} {n size : Nat} {xs : List Value} (h : Sl w e a n size xs) (o : Obj) : Sl (w.alloc o) e a n size xs := h.ch ((Ch.refl (fun _ => False) w).alloc o) noF
theorem Ch.of_grown {w w' : World} {row : Option Nat} (h : w.grownBy w' row) : Ch (fun b => row = some b) w w' := (Ch.refl _ w).grown h (fun _ e => .inl e)

/-- what a region that only asks keeps: the boxed book at block B, the lines, all that was there -/
structure RS (w : World) (B : Nat) (x y : Int) (v : Value) (a : Option Addr) (n : Nat) (xs : List Value) (W : World) : Prop where
  obj : W.heap[B]? = some (.cells #[.int .i64 x, .int .i64 y, v] 32)
  sl0 : Sl w 71 a n 2 xs
  ch : Ch (fun _ => False) w W
theorem RS.sl {w : World} {B : Nat} {x y : Int} {v : Value} {a : Option Addr} {n : Nat} {xs : List Value} {W : World} (h : RS w B x y v a n xs W) : Sl W 71 a n 2 xs := h.sl0.ch h.ch noF
section
variable {w : World} {B : Nat} {x y : Int} {v : Value} {a : Option Addr} {n : Nat} {xs : List Value} {W W' : World}
theorem RS.c0 (h : RS w B x y v a n xs W) : W.cell? ⟨B, 0, none⟩ = some (.int .i64 x) := cell_of h.obj rfl
theorem RS.c1 (h : RS w B x y v a n xs W) : W.cell? ⟨B, 1, none⟩ = some (.int .i64 y) := cell_of h.obj rfl
theorem RS.c2 (h : RS w B x y v a n xs W) : W.cell? ⟨B, 2, none⟩ = some v := cell_of h.obj rfl
theorem RS.lt (h : RS w B x y v a n xs W) : B < W.heap.size := lt_of_obj h.obj
end
theorem RS.steps {w : World} {B : Nat} {x y : Int} {v : Value} {a : Option Addr} {n : Nat} {xs : List Value} {W W' : World} {T : Nat → Prop} (h : RS w B x y v a n xs W) (c : Ch T W W') (hT : ∀ b, T b → w.heap.size ≤ b ∧ b ≠ B) : RS w B x y v a n xs W' :=
  ⟨c.obj h.obj (fun h => (hT _ h).2 rfl), h.sl0, h.ch.trans c (fun b hb hl => by have := (hT b hb).1; omega)⟩
theorem RS.step {w : World} {B : Nat} {x y : Int} {v : Value} {a : Option Addr} {n : Nat} {xs : List Value} {W W' : World} (h : RS w B x y v a n xs W) (c : Ch (fun _ => False) W W') : RS w B x y v a n xs W' := h.steps c (fun _ h => h.elim)
theorem RS.conj {w : World} {B : Nat} {x y : Int} {v : Value} {a : Option Addr} {n : Nat} {xs : List Value} {W : World} (h : RS w B x y v a n xs W) :
    W.cell? ⟨B, 0, none⟩ = some (.int .i64 x) ∧ W.cell? ⟨B, 1, none⟩ = some (.int .i64 y) ∧ W.cell? ⟨B, 2, none⟩ = some v ∧ RS w B x y v a n xs W := ⟨h.c0, h.c1, h.c2, h⟩
theorem RS.drew {w : World} {B : Nat} {x y : Int} {v : Value} {a : Option Addr} {n : Nat} {xs : List Value} {W : World} (h : RS w B x y v a n xs W) : RS w B x y v a n xs W.drew := h.step (Ch.refl _ _).drew
theorem RS.start {w : World} {x y : Int} {v : Value} {a : Option Addr} {n : Nat} {xs : List Value} (h : Sl w 71 a n 2 xs) : RS w w.heap.size x y v a n xs (w.alloc (.cells #[.int .i64 x, .int .i64 y, v] 32)) :=
  ⟨obj_new w _, h, (Ch.refl _ w).alloc _⟩
theorem RS.alloc {w : World} {B : Nat} {x y : Int} {v : Value} {a : Option Addr} {n : Nat} {xs : List Value} {W : World} (h : RS w B x y v a n xs W) (o : Obj) : RS w B x y v a n xs (W.alloc o) := h.step ((Ch.refl _ _).alloc o)
theorem rsum_rs {w : World} {B : Nat} {all share : Int} {L : List Ln} {a : Option Addr} {cap : Nat} {W : World} (hi : Inv all share L) (h : RS w B all share (.slice a L.length cap) a L.length (flat L) W) :
    Calls Try.prog 34 #[refV all share (.slice a L.length cap)] W fun e W' => e = .returned (.int .i64 (sumL L)) ∧ RS w B all share (.slice a L.length cap) a L.length (flat L) W' :=
  (rsum_any h.sl (fun x hx => (hi.rng x hx).1) (Int.le_trans hi.sum hi.all1)).mono fun _ _ ⟨he, hc⟩ => ⟨he, h.step hc⟩
theorem rof_rs {w : World} {B : Nat} {all share : Int} {L : List Ln} {a : Option Addr} {cap : Nat} {t : ByteArray} {W : World} (h : RS w B all share (.slice a L.length cap) a L.length (flat L) W) :
    Calls Try.prog 32 #[refV all share (.slice a L.length cap), .string t] W fun e W' => e = .returned (.int .i64 (ofL L t)) ∧ RS w B all share (.slice a L.length cap) a L.length (flat L) W' :=
  (rof_any h.sl).mono fun _ _ ⟨he, hc⟩ => ⟨he, h.step hc⟩

theorem info71 : (Try.prog.info? 71).map (fun i => (i.zero, i.size, i.bytes)) = some (some (.agg #[.string ⟨#[]⟩, .int .i64 0]), 2, 24) := by kernel_rfl

theorem hasL_append (L : List Ln) (x : Ln) (t : ByteArray) : hasL (L ++ [x]) t = (hasL L t || decide (x.1 = t)) := by
  induction L with
  | nil => by_cases h : x.1 = t <;> simp [hasL, h]
  | cons y r ih => by_cases h : y.1 = t <;> simp [hasL, h, ih]
theorem hasL_take_succ (L : List Ln) (k : Nat) (t : ByteArray) (h : k < L.length) : hasL (L.take (k + 1)) t = (hasL (L.take k) t || decide (L[k].1 = t)) := by
  rw [List.take_succ_eq_append_getElem h, hasL_append]
theorem setL_take_succ (L : List Ln) (k : Nat) (t : ByteArray) (n : Int) (h : k < L.length) : setL (L.take (k + 1)) t n = setL (L.take k) t n ++ [if L[k].1 = t then (L[k].1, n) else L[k]] := by
  rw [List.take_succ_eq_append_getElem h]; unfold setL; rw [List.map_append]; rfl
theorem set_hasnt {L : List Ln} {t : ByteArray} {v : Int} (h : hasL L t = false) : setL L t v = L := set_none (by rw [← hasL_iff, h]; simp)
theorem setL_length (L : List Ln) (t : ByteArray) (n : Int) : (setL L t n).length = L.length := by simp [setL]

/-- what the loop of 'with' holds: the box, the slot of the result, and what was put out -/
structure WS (w : World) (all share : Int) (v0 : Value) (a : Option Addr) (L : List Ln) (t : ByteArray) (v : Int) (out : Value) (k : Nat) (W : World) : Prop where
  rs : RS w w.heap.size all share v0 a L.length (flat L) W
  own : W.ownsRow (w.heap.size + 2) 71 2 out k (flat (setL (L.take k) t v))
  slot : W.heap[w.heap.size + 1]? = some (.cells #[.int .i64 0, .int .i64 0, .slice none 0 0] 32)
theorem WS.next {w : World} {all share : Int} {v0 : Value} {a : Option Addr} {L : List Ln} {t : ByteArray} {v : Int} {out out' : Value} {k : Nat} {W W' : World} {o1 o2 : Obj} (h : WS w all share v0 a L t v out k W)
    (hg : ((W.alloc o1).alloc o2).grownBy W' out.ownBlock) (own : W'.ownsRow (w.heap.size + 2) 71 2 out' (k + 1) (flat (setL (L.take (k + 1)) t v))) : WS w all share v0 a L t v out' (k + 1) W' := by
  have hc : Ch (fun b => out.ownBlock = some b) W W' := (((Ch.refl _ W).alloc o1).alloc o2).grown hg (fun _ e => .inl e)
  have hb : ∀ b, out.ownBlock = some b → w.heap.size + 2 ≤ b := fun b e => (h.own.lt b e).1
  exact ⟨h.rs.steps hc (fun b e => by have := hb b e; omega), own, hc.obj h.slot (fun e => by have := hb _ e; omega)⟩
/-- the book is written into the result's slot -/
theorem ret_book {w : World} {x y : Int} {v0 : Value} {a : Option Addr} {n m : Nat} {xs ys : List Value} {out : Value} {s0 s1 s2 : Value} {W : World} (h : RS w w.heap.size x y v0 a n xs W) (own : W.ownsRow (w.heap.size + 2) 71 2 out m ys)
    (slot : W.heap[w.heap.size + 1]? = some (.cells #[s0, s1, s2] 32)) (all share : Int) :
    let F := ((((W.setCell ⟨w.heap.size, 2, none⟩ out).setCell ⟨w.heap.size + 1, 0, none⟩ (.int .i64 all)).setCell ⟨w.heap.size + 1, 1, none⟩ (.int .i64 share)).setCell ⟨w.heap.size + 1, 2, none⟩ out)
    F.cell? ⟨w.heap.size + 1, 0, none⟩ = some (.int .i64 all) ∧ F.cell? ⟨w.heap.size + 1, 1, none⟩ = some (.int .i64 share) ∧ F.cell? ⟨w.heap.size + 1, 2, none⟩ = some out ∧ F.ownsRow w.heap.size 71 2 out m ys ∧ Ch (fun _ => False) w F := by
  intro F
  have o : F.heap[w.heap.size + 1]? = some (.cells #[.int .i64 all, .int .i64 share, out] 32) :=
    obj_setCell (obj_setCell (obj_setCell (obj_setCell_other slot (by simp))))
  refine ⟨cell_of o rfl, cell_of o rfl, cell_of o rfl, ?_, ?_⟩
  · exact ownsRow_base (ownsRow_setCell_below (ownsRow_setCell_below (ownsRow_setCell_below (ownsRow_setCell_below own (by simp) _) (by simp) _) (by simp) _) (by simp) _) (by omega)
  · exact (((h.ch.setCell (.inr (by simp)) _).setCell (.inr (by simp)) _).setCell (.inr (by simp)) _).setCell (.inr (by simp)) _

set_option maxRecDepth 100000 in
set_option maxHeartbeats 1000000 in
theorem rwith_any {all share : Int} {L : List Ln} {a : Option Addr} {cap : Nat} {t : ByteArray} {v : Int} {w : World} (h : Sl w 71 a L.length 2 (flat L)) (hlen : L.length < 1000000) :
    Calls Try.prog 33 #[refV all share (.slice a L.length cap), .string t, .int .i64 v] w fun e w' => ∃ u, e = .returned (refV all share u) ∧ w'.ownsRow w.heap.size 71 2 u (withL L t v).length (flat (withL L t v)) ∧ Ch (fun _ => False) w w' := by
  obtain ⟨i0, hi0, hz0, hz1, hz2⟩ := info_parts info71
  have HS := Lib.hid h
  clear h
  go_enter Try.func33, Try.ntmps33
  go_wp2
  have H0 : WS w all share (.slice a L.length cap) a L t v (.slice none 0 0) 0 ((w.alloc (.cells #[.int .i64 all, .int .i64 share, .slice a L.length cap] 32)).alloc (.cells #[.int .i64 0, .int .i64 0, .slice none 0 0] 32)) :=
    ⟨(RS.start HS.out).alloc _, World.ownsRow_nil _ _ _ _, by have := obj_new (w.alloc (.cells #[.int .i64 all, .int .i64 share, .slice a L.length cap] 32)) (.cells #[.int .i64 0, .int .i64 0, .slice none 0 0] 32); simpa using this⟩
  go_loopw [7, 8, 9, 10] (fun out put i _ wr => ∃ k : Nat, k ≤ L.length ∧ i = .int .i64 k ∧ put = .bool (hasL (L.take k) t) ∧ WS w all share (.slice a L.length cap) a L t v out k wr) (fun _ _ i _ _ => L.length - (intOf i).toNat)
  case atStart => exact ⟨0, Nat.zero_le _, rfl, rfl, H0⟩
  case round =>
    obtain ⟨k, hk, rfl, rfl, hws⟩ := hrel
    obtain ⟨oa, ocap, rfl, _⟩ := sl_of_row hws.own
    have c2 := hws.rs.c2
    have hsz : w.heap.size + 2 ≤ wr.heap.size := lt_of_obj hws.slot
    by_cases hlt : k < L.length
    · obtain ⟨g, rfl, hg, hcells⟩ := hws.rs.sl.cells (by omega)
      have d0 := hcells _ _ (flat_get0 L k hlt)
      have d1 := hcells _ _ (flat_get1 L k hlt)
      clear hcells H0
      have HT := Lib.hid (hasL_take_succ L k t hlt)
      have HU := Lib.hid (setL_take_succ L k t v hlt)
      have HW := Lib.hid hws
      clear hws
      by_cases he : L[k].1 = t
      · have hb := eqS_true he
        have HE := Lib.hid he
        clear he
        go_wp2_with (at_builtin; refine wpList_append_own _ rfl _ _ 30 rfl (w.heap.size + 2) 71 i0 (.agg #[.string ⟨#[]⟩, .int .i64 0]) 2 24 Try.underlying30 hi0 hz0 hz1 hz2 rfl (by decide) _ _ _ rfl ((HW.out.own.alloc _).alloc _) ⟨wr.heap.size + 1, 0, none⟩ 1 1 [.string L[k].1, .int .i64 v] rfl rfl ?c1 ?c2 ?c3 ?c4 ?c5 ?_)
        case c1 => exact World.news_of_block (cs := #[.string L[k].1, .int .i64 v]) (t := 71) (fr := (0, 0)) (by have := obj_new (wr.alloc (.cells #[.string L[k].1, .int .i64 v] 71)) (.cells #[.string L[k].1, .int .i64 v] 71); simpa using this)
        case c2 => simp [Value.oneCell']
        case c3 => unfold maxLen; omega
        case c4 => omega
        case c5 => simp; omega
        intro v' w1 hown1 hgrow1 _
        go_wp2
        go_roundw
        case rel => exact ⟨k + 1, by omega, by go_num, by rw [HT.out, HE.out]; simp, HW.out.next hgrow1 (by rw [HU.out, flat_append, if_pos HE.out]; exact hown1)⟩
        case measure => simp [intOf]; omega
      · have hb := eqS_false he
        have HE := Lib.hid he
        clear he
        go_wp2_with (at_builtin; refine wpList_append_own _ rfl _ _ 30 rfl (w.heap.size + 2) 71 i0 (.agg #[.string ⟨#[]⟩, .int .i64 0]) 2 24 Try.underlying30 hi0 hz0 hz1 hz2 rfl (by decide) _ _ _ rfl ((HW.out.own.alloc _).alloc _) ⟨wr.heap.size + 1, 0, none⟩ 1 1 [.string L[k].1, .int .i64 L[k].2] rfl rfl ?d1 ?d2 ?d3 ?d4 ?d5 ?_)
        case d1 => exact World.news_of_block (cs := #[.string L[k].1, .int .i64 L[k].2]) (t := 71) (fr := (0, 0)) (by have := obj_new (wr.alloc (.cells #[.string L[k].1, .int .i64 L[k].2] 71)) (.cells #[.string L[k].1, .int .i64 L[k].2] 71); simpa using this)
        case d2 => simp [Value.oneCell']
        case d3 => unfold maxLen; omega
        case d4 => omega
        case d5 => simp; omega
        intro v' w1 hown1 hgrow1 _
        go_wp2
        go_roundw
        case rel => exact ⟨k + 1, by omega, by go_num, by rw [HT.out, decide_eq_false HE.out]; simp, HW.out.next hgrow1 (by rw [HU.out, flat_append, if_neg HE.out]; exact hown1)⟩
        case measure => simp [intOf]; omega
    · obtain rfl : k = L.length := by omega
      have f2 := frozen_of (off := 2) hws.rs.obj
      have z0 := cell_of (off := 0) (v := .int .i64 0) hws.slot rfl
      have z1 := cell_of (off := 1) (v := .int .i64 0) hws.slot rfl
      have z2 := cell_of (off := 2) (v := .slice none 0 0) hws.slot rfl
      have g0 := frozen_of (off := 0) hws.slot
      have g1 := frozen_of (off := 1) hws.slot
      have g2 := frozen_of (off := 2) hws.slot
      have c0 := hws.rs.c0
      have c1 := hws.rs.c1
      have HW := Lib.hid hws
      clear hws H0
      by_cases hh : hasL L t = true
      · have hw : Hid (withL L t v = setL L t v) := by unfold Hid withL; rw [if_pos hh]
        go_wp2
        obtain ⟨q0, q1, q2, own, ch⟩ := ret_book HW.out.rs HW.out.own HW.out.slot all share
        exact bodyPost_ret (v := refV all share (.slice oa L.length ocap)) (by simp [results, Try.results33, go_sem, q0, q1, q2]) rfl ⟨_, rfl, by rw [hw.out, setL_length]; simpa using own, ch⟩
      · have hw : Hid (withL L t v = L ++ [(t, v)]) := by unfold Hid withL; rw [if_neg hh]
        have hh' : hasL L t = false := by simpa using hh
        clear hh
        go_wp2_with (at_builtin; refine wpList_append_own _ rfl _ _ 30 rfl (w.heap.size + 2) 71 i0 (.agg #[.string ⟨#[]⟩, .int .i64 0]) 2 24 Try.underlying30 hi0 hz0 hz1 hz2 rfl (by decide) _ _ _ rfl (HW.out.own.alloc _) ⟨wr.heap.size, 0, none⟩ 1 1 [.string t, .int .i64 v] rfl rfl ?d1 ?d2 ?d3 ?d4 ?d5 ?_)
        case d1 => exact World.news_of_block (cs := #[.string t, .int .i64 v]) (t := 71) (fr := (0, 0)) (obj_new _ _)
        case d2 => simp [Value.oneCell']
        case d3 => unfold maxLen; omega
        case d4 => omega
        case d5 => simp; omega
        intro v' w1 hown1 hgrow1 _
        obtain ⟨oa1, ocap1, hv1, _⟩ := sl_of_row hown1
        subst hv1
        have hc : Ch (fun b => (Value.slice oa L.length ocap).ownBlock = some b) wr w1 := ((Ch.refl _ wr).alloc _).grown hgrow1 (fun _ e => .inl e)
        have hb : ∀ b, (Value.slice oa L.length ocap).ownBlock = some b → w.heap.size + 2 ≤ b := fun b e => (HW.out.own.lt b e).1
        have hR : RS w w.heap.size all share (.slice a L.length cap) a L.length (flat L) w1 := HW.out.rs.steps hc (fun b e => by have := hb b e; omega)
        have hS := hc.obj HW.out.slot (fun e => by have := hb _ e; omega)
        have HX := Lib.hid (ret_book hR hown1 hS all share)
        clear hc hb hown1 hgrow1 f2 z0 z1 z2 g0 g1 g2 c0 c1 c2 HW
        have f2 := frozen_of (off := 2) hR.obj
        have z0 := cell_of (off := 0) (v := .int .i64 0) hS rfl
        have z1 := cell_of (off := 1) (v := .int .i64 0) hS rfl
        have z2 := cell_of (off := 2) (v := .slice none 0 0) hS rfl
        have g0 := frozen_of (off := 0) hS
        have g1 := frozen_of (off := 1) hS
        have g2 := frozen_of (off := 2) hS
        have c0 := hR.c0
        have c1 := hR.c1
        have c2 := hR.c2
        clear hR hS
        go_wp2
        obtain ⟨q0, q1, q2, own, ch⟩ := HX.out
        exact bodyPost_ret (v := refV all share (.slice oa1 (L.length + 1) ocap1)) (by simp [results, Try.results33, go_sem, q0, q1, q2]) rfl ⟨_, rfl, by rw [hw.out, List.length_append, flat_append]; simpa [set_hasnt hh', flat] using own, ch⟩
end Go.Proofs.Yteadclkpoikobaa
