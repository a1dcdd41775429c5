/- Whatever is added and taken, a book is what the document says, act by act: the walk of BudgetPlays. Conditions: the arguments lie in memory. -/
import Derived.Test.YteadclkpoikobaaL4
namespace Go.Proofs.Yteadclkpoikobaa
open Go.RowKit Go.Maps Go.ChangeMaps Go.WideMaps

/-- a book b (its map m), and the document's in the box X -/
structure QS (w : World) (b m X : Nat) (all share : Int) (L : List Ln) (n : Nat) (W : World) : Prop where
  book : BookL W b m all share L n
  box : ∃ a' cap', W.heap[X]? = some (.cells #[.int .i64 all, .int .i64 share, .slice a' L.length cap'] 32) ∧ Sl W 71 a' L.length 2 (flat L)
  ch : Ch (fun _ => False) w W
  far : w.heap.size ≤ b ∧ w.heap.size ≤ m ∧ w.heap.size ≤ X
theorem QS.step {w : World} {b m X n : Nat} {all share : Int} {L : List Ln} {W W' : World} (h : QS w b m X all share L n W) (c : Ch (fun _ => False) W W') : QS w b m X all share L n W' := by
  obtain ⟨a', cap', hx, hs⟩ := h.box
  exact ⟨h.book.ch c (fun h => h) (fun h => h), ⟨a', cap', c.obj hx (fun h => h), hs.ch c noF⟩, h.ch.trans c (fun _ h _ => h), h.far⟩
theorem stored2 {w : World} {b m X n : Nat} {all share : Int} {L : List Ln} {W : World} {p q r : Value} {a' : Option Addr} {cap' : Nat} (hb : BookL W b m all share L n) (hx : W.heap[X]? = some (.cells #[p, q, r] 32)) (hs : Sl W 71 a' L.length 2 (flat L))
    (hc : Ch (fun _ => False) w W) (far : w.heap.size ≤ b ∧ w.heap.size ≤ m ∧ w.heap.size ≤ X) :
    QS w b m X all share L n (((W.setCell ⟨X, 0, none⟩ (.int .i64 all)).setCell ⟨X, 1, none⟩ (.int .i64 share)).setCell ⟨X, 2, none⟩ (.slice a' L.length cap')) ∧
    Sl (((W.setCell ⟨X, 0, none⟩ (.int .i64 all)).setCell ⟨X, 1, none⟩ (.int .i64 share)).setCell ⟨X, 2, none⟩ (.slice a' L.length cap')) 71 a' L.length 2 (flat L) := by
  have c : Ch (fun k => k = X) W (((W.setCell ⟨X, 0, none⟩ (.int .i64 all)).setCell ⟨X, 1, none⟩ (.int .i64 share)).setCell ⟨X, 2, none⟩ (.slice a' L.length cap')) :=
    (((Ch.refl (fun k => k = X) W).setCell (p := ⟨X, 0, none⟩) (.inl rfl) _).setCell (p := ⟨X, 1, none⟩) (.inl rfl) _).setCell (p := ⟨X, 2, none⟩) (.inl rfl) _
  have hne := hb.obj_ne hx (by decide)
  have hs' : Sl (((W.setCell ⟨X, 0, none⟩ (.int .i64 all)).setCell ⟨X, 1, none⟩ (.int .i64 share)).setCell ⟨X, 2, none⟩ (.slice a' L.length cap')) 71 a' L.length 2 (flat L) := by
    refine hs.chT c ?_
    rintro g cur z hg _ rfl
    rw [hx] at hg
    cases hg
  exact ⟨⟨hb.ch c (fun e => hne (.inl e.symm)) (fun e => hne (.inr e.symm)), ⟨a', cap', obj_setCell (obj_setCell (obj_setCell hx)), hs'⟩, hc.trans c (fun k hk hl => by have := far.2.2; omega), far⟩, hs'⟩
theorem QS.booked {w : World} {b m X n : Nat} {all share : Int} {L : List Ln} {W W' : World} (h : QS w b m X all share L n W) (c : Ch (fun k => k = b ∨ k = m) W W') :
    (∃ a' cap', W'.heap[X]? = some (.cells #[.int .i64 all, .int .i64 share, .slice a' L.length cap'] 32) ∧ Sl W' 71 a' L.length 2 (flat L)) ∧ Ch (fun _ => False) w W' := by
  obtain ⟨a', cap', hx, hs⟩ := h.box
  refine ⟨⟨a', cap', c.obj hx (h.book.obj_ne hx (by decide)), hs.chT c ?_⟩, h.ch.trans c (fun k hk hl => by have := h.far; rcases hk with rfl | rfl <;> omega)⟩
  exact fun g cur z hg _ => h.book.obj_ne hg (by decide)
theorem length_playL_le (all share : Int) (A : List Ac) (k : Nat) (hA : A.length ≤ 60) : (playL all share (A.take k)).length ≤ 60 := by
  have := length_play all share (A.take k)
  rw [List.length_take] at this
  omega

set_option maxRecDepth 100000 in
set_option maxHeartbeats 2000000 in
theorem plays_walk {all share : Int} {A : List Ac} {a : Option Addr} {cap : Nat} {w : World} (h : Ag w a A.length 3 (flatA A)) :
    Calls Try.prog 4 #[.int .i64 all, .int .i64 share, .slice a A.length cap] w fun e w' => e = .returned (.bool true) ∧ Ch (fun _ => False) w w' := by
  have HA := Lib.hid h
  clear h
  by_cases hs : smallA A = true
  · obtain ⟨hsh, hA⟩ := smallA_of hs
    by_cases hg : 0 ≤ share ∧ share ≤ all ∧ all ≤ 1125899906842624
    · obtain ⟨g0, g1, g2⟩ := hg
      have h1 := fun W => Lib.hid (new_yes all share W g0 g1 g2)
      have h2 := fun W => Lib.hid (rnew_yes all share W g0 g1 g2)
      have HI := Lib.hid (Inv.nil g0 g1 g2)
      have HN := fun k hk => Lib.hid (show (A.get ⟨k, hk⟩).1.size ≤ 300 from by have := List.all_eq_true.1 hsh _ (List.getElem_mem hk); simpa using this)
      go_enter Try.func4, Try.ntmps4
      go_wp2_with fail
      refine (wakes_any _).mono ?_
      rintro e w1 ⟨rfl, c1⟩
      go_wp2_with fail
      refine (small_any (HA.out.ch c1)).mono ?_
      rintro e w2 ⟨rfl, c2⟩
      have HC := Lib.hid (c1.trans c2 (fun _ h _ => h))
      clear c1 c2
      go_wp2_with fail
      refine (h1 _).out.mono ?_
      rintro e w3 ⟨b, m, rfl, hb, hm, B0, c0⟩
      go_wp2_with fail
      refine (h2 _).out.mono ?_
      rintro e w4 ⟨a', cap', rfl, hs, hc⟩
      have HP : QS w b m w4.heap.size all share [] 0 (w4.alloc (.cells #[.int .i64 all, .int .i64 share, .slice a' 0 cap'] 32)) := by
        have s1 := HC.out.size
        have s2 := hc.size
        have s3 := c0.size
        exact ⟨(B0.ch hc (fun h => h) (fun h => h)).ch ((Ch.refl (fun _ => False) w4).alloc _) (fun h => h) (fun h => h), ⟨a', cap', obj_new _ _, hs.alloc _⟩,
          ((HC.out.trans c0 (fun _ h _ => h)).trans hc (fun _ h _ => h)).alloc _, by omega⟩
      clear B0 c0 hc hs hb hm h1 h2 HC
      go_wp2_with fail
      go_loopw [48, 12, 13, 14] (fun i _ _ _ wr => ∃ k : Nat, k ≤ A.length ∧ i = .int .i64 k ∧ QS w b m w4.heap.size all share (playL all share (A.take k)) k wr) (fun i _ _ _ _ => A.length - (intOf i).toNat)
      case atStart => exact ⟨0, Nat.zero_le _, rfl, HP⟩
      case round =>
        obtain ⟨k, hk, rfl, hp⟩ := hrel
        clear HP
        have hi := HI.out.play (A.take k)
        have hlen := length_play all share (A.take k)
        rw [List.length_take] at hlen
        have hlen' : (playL all share (A.take k)).length < 1000000 := by omega
        by_cases hlt : k < A.length
        · have HPS := Lib.hid (playL_succ all share A k hlt)
          obtain ⟨g, o, rfl, hg, hcells⟩ := (HA.out.ch hp.ch).cells (by omega)
          obtain ⟨e0, e1, e2⟩ := flatA_get A k hlt
          have d0 := hcells _ _ e0
          have d1 := hcells _ _ e1
          have d2 := hcells _ _ e2
          rw [← Nat.add_assoc] at d1 d2
          have hsz := (HN k hlt).out
          simp only [List.get_eq_getElem] at hsz
          have HI2 := Lib.hid hi
          clear hcells e0 e1 e2 hi hlen HN
          have HP2 := Lib.hid (fun o => hp.step ((Ch.refl (fun _ => False) wr).alloc o))
          clear hp
          by_cases hl : A[k].2.2 = true
          · have HL := Lib.hid hl
            go_wp2_with fail
            have hp2 := HP2.out (.cells #[.string A[k].1, .int .i64 A[k].2.1, .bool true] 26)
            refine (less_any hp2.book (by omega) (by unfold maxLen; omega)).mono ?_
            rintro e w3 ⟨rfl, B3, c3⟩
            obtain ⟨⟨a1, cap1, hx, hs⟩, hch⟩ := hp2.booked c3
            have ho := c3.obj (obj_new wr (.cells #[.string A[k].1, .int .i64 A[k].2.1, .bool true] 26)) (hp2.book.obj_ne (obj_new _ _) (by decide))
            have x0 := cell_of (off := 0) (v := .int .i64 all) hx rfl
            have x1 := cell_of (off := 1) (v := .int .i64 share) hx rfl
            have x2 := cell_of (off := 2) (v := .slice a1 (playL all share (A.take k)).length cap1) hx rfl
            have n0 := cell_of (off := 0) (v := .string A[k].1) ho rfl
            have n1 := cell_of (off := 1) (v := .int .i64 A[k].2.1) ho rfl
            have far := hp2.far
            have HS := Lib.hid hs
            have HB := Lib.hid B3
            have HC3 := Lib.hid hch
            have HX := Lib.hid hx
            clear hs B3 hch hx ho c3 hp2
            go_wp2_with fail
            refine (rless_any HS.out HI2.out hlen').mono ?_
            rintro e w4 ⟨a2, cap2, rfl, hs4, c4⟩
            have hx4 := c4.obj HX.out (fun h => h)
            have x0 := cell_of (off := 0) (v := .int .i64 all) hx4 rfl
            have x1 := cell_of (off := 1) (v := .int .i64 share) hx4 rfl
            have x2 := cell_of (off := 2) (v := .slice a1 (playL all share (A.take k)).length cap1) hx4 rfl
            have f0 := frozen_of (off := 0) hx4
            have f1 := frozen_of (off := 1) hx4
            have f2 := frozen_of (off := 2) hx4
            obtain ⟨HQ, HSl⟩ := stored2 (cap' := cap2) (HB.out.ch c4 (fun h => h) (fun h => h)) hx4 hs4 (HC3.out.trans c4 (fun _ h _ => h)) far
            have hl1 : (playL all share (A.take (k + 1))).length < 1000000 := by have := length_playL_le all share A (k + 1) hA; omega
            rw [HPS.out, stepL, if_pos HL.out] at hl1
            have HQ2 := Lib.hid HQ
            have HSl2 := Lib.hid HSl
            clear hx4 c4 hs4 HQ HSl
            go_wp2_with fail
            refine (same_any HQ2.out.book (by omega) HSl2.out hl1 (HA.out.ch HQ2.out.ch) hsh).mono ?_
            rintro e w5 ⟨rfl, c5⟩
            go_wp2_with fail
            go_roundw
            case rel =>
              refine ⟨k + 1, by omega, by go_num, ?_⟩
              rw [HPS.out, stepL, if_pos HL.out]
              exact HQ2.out.step c5
            case measure => simp [intOf]; omega
          · have hl' : A[k].2.2 = false := by simpa using hl
            have HL := Lib.hid hl
            clear hl
            go_wp2_with fail
            have hp2 := HP2.out (.cells #[.string A[k].1, .int .i64 A[k].2.1, .bool false] 26)
            refine (add_any hp2.book (by omega) (by unfold maxLen; omega)).mono ?_
            rintro e w3 ⟨rfl, B3, c3⟩
            obtain ⟨⟨a1, cap1, hx, hs⟩, hch⟩ := hp2.booked c3
            have ho := c3.obj (obj_new wr (.cells #[.string A[k].1, .int .i64 A[k].2.1, .bool false] 26)) (hp2.book.obj_ne (obj_new _ _) (by decide))
            have x0 := cell_of (off := 0) (v := .int .i64 all) hx rfl
            have x1 := cell_of (off := 1) (v := .int .i64 share) hx rfl
            have x2 := cell_of (off := 2) (v := .slice a1 (playL all share (A.take k)).length cap1) hx rfl
            have n0 := cell_of (off := 0) (v := .string A[k].1) ho rfl
            have n1 := cell_of (off := 1) (v := .int .i64 A[k].2.1) ho rfl
            have far := hp2.far
            have HS := Lib.hid hs
            have HB := Lib.hid B3
            have HC3 := Lib.hid hch
            have HX := Lib.hid hx
            clear hs B3 hch hx ho c3 hp2
            go_wp2_with fail
            refine (radd_any HS.out HI2.out hlen').mono ?_
            rintro e w4 ⟨a2, cap2, rfl, hs4, c4⟩
            have hx4 := c4.obj HX.out (fun h => h)
            have x0 := cell_of (off := 0) (v := .int .i64 all) hx4 rfl
            have x1 := cell_of (off := 1) (v := .int .i64 share) hx4 rfl
            have x2 := cell_of (off := 2) (v := .slice a1 (playL all share (A.take k)).length cap1) hx4 rfl
            have f0 := frozen_of (off := 0) hx4
            have f1 := frozen_of (off := 1) hx4
            have f2 := frozen_of (off := 2) hx4
            obtain ⟨HQ, HSl⟩ := stored2 (cap' := cap2) (HB.out.ch c4 (fun h => h) (fun h => h)) hx4 hs4 (HC3.out.trans c4 (fun _ h _ => h)) far
            have hl1 : (playL all share (A.take (k + 1))).length < 1000000 := by have := length_playL_le all share A (k + 1) hA; omega
            rw [HPS.out, stepL, if_neg HL.out] at hl1
            have HQ2 := Lib.hid HQ
            have HSl2 := Lib.hid HSl
            clear hx4 c4 hs4 HQ HSl
            go_wp2_with fail
            refine (same_any HQ2.out.book (by omega) HSl2.out hl1 (HA.out.ch HQ2.out.ch) hsh).mono ?_
            rintro e w5 ⟨rfl, c5⟩
            go_wp2_with fail
            go_roundw
            case rel =>
              refine ⟨k + 1, by omega, by go_num, ?_⟩
              rw [HPS.out, stepL, if_neg HL.out]
              exact HQ2.out.step c5
            case measure => simp [intOf]; omega
        · obtain rfl : k = A.length := by omega
          have ht : playL all share (A.take A.length) = playL all share A := by rw [List.take_length]
          rw [ht] at hp
          obtain ⟨a1, cap1, hx, hs⟩ := hp.box
          have x0 := cell_of (off := 0) (v := .int .i64 all) hx rfl
          have x1 := cell_of (off := 1) (v := .int .i64 share) hx rfl
          have x2 := cell_of (off := 2) (v := .slice a1 (playL all share A).length cap1) hx rfl
          have HW := Lib.hid hp
          clear hx hp
          go_wp2_with fail
          refine (same_any (n := A.length) HW.out.book (by omega) hs (by have := length_playL_le all share A A.length hA; rw [ht] at this; omega) (HA.out.ch HW.out.ch) hsh).mono ?_
          rintro e w5 ⟨rfl, c5⟩
          go_wp2
          go_ret
          exact ⟨rfl, HW.out.ch.trans c5 (fun _ h _ => h)⟩
    · have h1 := fun W => Lib.hid (new_no all share W hg)
      have h2 := fun W => Lib.hid (rnew_no all share W hg)
      clear hg
      go_enter Try.func4, Try.ntmps4
      go_wp2_with fail
      refine (wakes_any _).mono ?_
      rintro e w1 ⟨rfl, c1⟩
      go_wp2_with fail
      refine (small_any (HA.out.ch c1)).mono ?_
      rintro e w2 ⟨rfl, c2⟩
      go_wp2_with fail
      refine (h1 _).out.mono ?_
      rintro e w3 ⟨rfl, rfl⟩
      go_wp2_with fail
      refine (h2 _).out.mono ?_
      rintro e w4 ⟨a', cap', rfl, hs, hc⟩
      go_wp2
      go_ret
      exact ⟨rfl, ((c1.trans c2 (fun _ h _ => h)).trans hc (fun _ h _ => h)).alloc _⟩
  · have hs' : smallA A = false := by simpa using hs
    clear hs
    go_enter Try.func4, Try.ntmps4
    go_wp2_with fail
    refine (wakes_any _).mono ?_
    rintro e w1 ⟨rfl, c1⟩
    go_wp2_with fail
    refine (small_any (HA.out.ch c1)).mono ?_
    rintro e w2 ⟨rfl, c2⟩
    go_wp2_with fail
    go_ret
    exact ⟨rfl, c1.trans c2 (fun _ h _ => h)⟩
end Go.Proofs.Yteadclkpoikobaa
