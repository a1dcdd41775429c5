/- The statements' own helper 'play': both books behind the acts. Conditions: the acts lie in memory. -/
import Derived.Test.YteadclkpoikobaaL1
namespace Go.Proofs.Yteadclkpoikobaa
open Go.RowKit Go.Maps Go.ChangeMaps Go.WideMaps

/-- what 'play' hands back where the book may be -/
def PlayYes (w : World) (all share : Int) (L : List Ln) (N : Nat) (e : Ending) (w' : World) : Prop :=
  ∃ b m a' cap', e = .returned (.tuple #[.pointer (some ⟨b, 0, none⟩), refV all share (.slice a' L.length cap'), .bool true]) ∧ w.heap.size ≤ b ∧ w.heap.size ≤ m ∧ BookL w' b m all share L N ∧ Sl w' 71 a' L.length 2 (flat L) ∧ Ch (fun _ => False) w w'
/-- .. and where it may not -/
def PlayNo (w : World) (e : Ending) (w' : World) : Prop := ∃ u, e = .returned (.tuple #[.pointer none, refV 0 0 u, .bool false]) ∧ (∃ a' cap', u = .slice a' 0 cap') ∧ Ch (fun _ => False) w w'

set_option maxRecDepth 100000 in
set_option maxHeartbeats 1000000 in
theorem play_no {all share : Int} {v : Value} {w : World} (h : ¬ (0 ≤ share ∧ share ≤ all ∧ all ≤ 1125899906842624)) :
    Calls Try.prog 11 #[.int .i64 all, .int .i64 share, v] w (PlayNo w) := by
  have h1 := fun W => Lib.hid (new_no all share W h)
  have h2 := fun W => Lib.hid (rnew_no all share W h)
  clear h
  go_enter Try.func11, Try.ntmps11
  go_wp2_with fail
  refine (h1 _).out.mono ?_
  rintro e w1 ⟨rfl, rfl⟩
  go_wp2_with fail
  refine (h2 _).out.mono ?_
  rintro e w1 ⟨a', cap', rfl, hs, hc⟩
  have o := hc.obj (obj_new w (.cells #[.int .i64 0, .int .i64 0, .slice none 0 0] 32)) (fun h => h)
  have z0 := cell_of (off := 0) (v := .int .i64 0) o rfl
  have z1 := cell_of (off := 1) (v := .int .i64 0) o rfl
  have z2 := cell_of (off := 2) (v := .slice none 0 0) o rfl
  have f0 := frozen_of (off := 0) o
  have f1 := frozen_of (off := 1) o
  have f2 := frozen_of (off := 2) o
  have hlt := lt_of_obj o
  have HC := Lib.hid hc
  clear o hc hs
  go_wp2
  go_region
  go_wp2
  refine bodyPost_ret (v := .tuple #[.pointer none, refV 0 0 (.slice a' 0 cap'), .bool false]) (by simp [results, Try.results11, go_sem, z0, z1, z2, hlt]) rfl ⟨_, rfl, ⟨_, _, rfl⟩, ?_⟩
  exact ((((((Ch.refl _ w).alloc _).trans HC.out (fun _ h _ => h)).setCell (.inr (Nat.le_refl _)) _).setCell (.inr (Nat.le_refl _)) _).setCell (.inr (Nat.le_refl _)) _).alloc _ |>.drew

theorem PS.mono {w : World} {b m X R n n' : Nat} {all share : Int} {L : List Ln} {W : World} (h : PS w b m X R all share L n W) (hn : n ≤ n') : PS w b m X R all share L n' W := ⟨h.book.mono hn, h.box, h.slot, h.ch, h.far⟩
theorem PS.step {w : World} {b m X R n : Nat} {all share : Int} {L : List Ln} {W W' : World} (h : PS w b m X R all share L n W) (c : Ch (fun _ => False) W W') : PS w b m X R all share L n W' := by
  obtain ⟨a', cap', hx, hs⟩ := h.box
  exact ⟨h.book.ch c (fun h => h) (fun h => h), ⟨a', cap', c.obj hx (fun h => h), hs.ch c noF⟩, c.obj h.slot (fun h => h), h.ch.trans c (fun _ h _ => h), h.far⟩

/-- the reference's book written back into its box -/
theorem stored {w : World} {b m X R n : Nat} {all share : Int} {L : List Ln} {W : World} {p q r : Value} {a' : Option Addr} {cap' : Nat} (hb : BookL W b m all share L n) (hx : W.heap[X]? = some (.cells #[p, q, r] 32)) (hs : Sl W 71 a' L.length 2 (flat L))
    (hr : W.heap[R]? = some (.cells #[.int .i64 0, .int .i64 0, .slice none 0 0] 32)) (hc : Ch (fun _ => False) w W) (far : w.heap.size ≤ b ∧ w.heap.size ≤ m ∧ w.heap.size ≤ X ∧ w.heap.size ≤ R ∧ X ≠ R) :
    PS w b m X R all share L n (((W.setCell ⟨X, 0, none⟩ (.int .i64 all)).setCell ⟨X, 1, none⟩ (.int .i64 share)).setCell ⟨X, 2, none⟩ (.slice a' L.length cap')) := by
  have c : Ch (fun k => k = X) W (((W.setCell ⟨X, 0, none⟩ (.int .i64 all)).setCell ⟨X, 1, none⟩ (.int .i64 share)).setCell ⟨X, 2, none⟩ (.slice a' L.length cap')) :=
    (((Ch.refl (fun k => k = X) W).setCell (p := ⟨X, 0, none⟩) (.inl rfl) _).setCell (p := ⟨X, 1, none⟩) (.inl rfl) _).setCell (p := ⟨X, 2, none⟩) (.inl rfl) _
  have hne := hb.obj_ne hx (by decide)
  refine ⟨hb.ch c (fun e => hne (.inl e.symm)) (fun e => hne (.inr e.symm)), ⟨a', cap', obj_setCell (obj_setCell (obj_setCell hx)), hs.chT c ?_⟩, c.obj hr (fun e => far.2.2.2.2 e.symm), hc.trans c (fun k hk hl => by have := far.2.2.1; omega), far⟩
  rintro g cur z hg _ rfl
  rw [hx] at hg
  cases hg

set_option maxRecDepth 100000 in
set_option maxHeartbeats 2000000 in
theorem play_yes {all share : Int} {A : List Ac} {a : Option Addr} {cap : Nat} {w : World} (h : Ag w a A.length 3 (flatA A)) (hA : A.length ≤ 60) (hsh : shortA A = true) (g0 : 0 ≤ share) (g1 : share ≤ all) (g2 : all ≤ 1125899906842624) :
    Calls Try.prog 11 #[.int .i64 all, .int .i64 share, .slice a A.length cap] w (PlayYes w all share (playL all share A) 60) := by
  have h1 := fun W => Lib.hid (new_yes all share W g0 g1 g2)
  have h2 := fun W => Lib.hid (rnew_yes all share W g0 g1 g2)
  have HA := Lib.hid h
  have HI := Lib.hid (Inv.nil g0 g1 g2)
  have HN := fun k hk => Lib.hid (show (A.get ⟨k, hk⟩).1.size ≤ 300 from by have := List.all_eq_true.1 hsh _ (List.getElem_mem hk); simpa using this)
  clear h hsh
  go_enter Try.func11, Try.ntmps11
  go_wp2_with fail
  refine (h1 _).out.mono ?_
  rintro e w1 ⟨b, m, rfl, hb, hm, B0, c0⟩
  go_wp2_with fail
  refine (h2 _).out.mono ?_
  rintro e w2 ⟨a', cap', rfl, hs, hc⟩
  have HP : PS w b m w2.heap.size w.heap.size all share [] 0 (w2.alloc (.cells #[.int .i64 all, .int .i64 share, .slice a' 0 cap'] 32)) := by
    have hR := lt_of_obj (c0.obj (obj_new w (.cells #[.int .i64 0, .int .i64 0, .slice none 0 0] 32)) (fun h => h))
    have s2 := hc.size
    simp at hb hm
    exact ⟨(B0.ch hc (fun h => h) (fun h => h)).ch ((Ch.refl (fun _ => False) w2).alloc _) (fun h => h) (fun h => h), ⟨a', cap', obj_new _ _, hs.alloc _⟩,
      obj_alloc (hc.obj (c0.obj (obj_new w _) (fun h => h)) (fun h => h)), ((((Ch.refl _ w).alloc _).trans c0 (fun _ h _ => h)).trans hc (fun _ h _ => h)).alloc _, by omega⟩
  clear B0 c0 hc hs hb hm h1 h2
  go_wp2_with fail
  go_loopw [36, 14] (fun i _ wr => ∃ k : Nat, k ≤ A.length ∧ i = .int .i64 k ∧ PS w b m w2.heap.size w.heap.size all share (playL all share (A.take k)) k wr) (fun i _ _ => A.length - (intOf i).toNat)
  case atStart => exact ⟨0, Nat.zero_le _, rfl, HP⟩
  case round =>
    obtain ⟨k, hk, rfl, hp⟩ := hrel
    clear HP
    have hi := HI.out.play (A.take k)
    have hlen := length_play all share (A.take k)
    rw [List.length_take] at hlen
    have hlen' : (playL all share (A.take k)).length < 1000000 := by omega
    by_cases hlt : k < A.length
    · have HPS := Lib.hid (playL_succ all share A k hlt)
      obtain ⟨g, o, rfl, hg, hcells⟩ := (HA.out.ch hp.ch).cells (by omega)
      obtain ⟨e0, e1, e2⟩ := flatA_get A k hlt
      have d0 := hcells _ _ e0
      have d1 := hcells _ _ e1
      have d2 := hcells _ _ e2
      rw [← Nat.add_assoc] at d1 d2
      have hsz := (HN k hlt).out
      simp only [List.get_eq_getElem] at hsz
      have HI2 := Lib.hid hi
      clear hcells e0 e1 e2 hi hlen HN
      have HP2 := Lib.hid (fun o => hp.step ((Ch.refl (fun _ => False) wr).alloc o))
      clear hp
      by_cases hl : A[k].2.2 = true
      · have HL := Lib.hid hl
        go_wp2_with fail
        have hp2 := HP2.out (.cells #[.string A[k].1, .int .i64 A[k].2.1, .bool true] 26)
        refine (less_any hp2.book (by omega) (by unfold maxLen; omega)).mono ?_
        rintro e w3 ⟨rfl, B3, c3⟩
        obtain ⟨⟨a1, cap1, hx, hs⟩, hr, hch⟩ := hp2.booked c3
        have ho := c3.obj (obj_new wr (.cells #[.string A[k].1, .int .i64 A[k].2.1, .bool true] 26)) (hp2.book.obj_ne (obj_new _ _) (by decide))
        have x0 := cell_of (off := 0) (v := .int .i64 all) hx rfl
        have x1 := cell_of (off := 1) (v := .int .i64 share) hx rfl
        have x2 := cell_of (off := 2) (v := .slice a1 (playL all share (A.take k)).length cap1) hx rfl
        have n0 := cell_of (off := 0) (v := .string A[k].1) ho rfl
        have n1 := cell_of (off := 1) (v := .int .i64 A[k].2.1) ho rfl
        have far := hp2.far
        have HS := Lib.hid hs
        have HB := Lib.hid B3
        have HC3 := Lib.hid hch
        have HX := Lib.hid hx
        have HR := Lib.hid hr
        clear hs B3 hch hx hr ho c3 hp2
        go_wp2_with fail
        refine (rless_any HS.out HI2.out hlen').mono ?_
        rintro e w4 ⟨a2, cap2, rfl, hs4, c4⟩
        have hx4 := c4.obj HX.out (fun h => h)
        have x0 := cell_of (off := 0) (v := .int .i64 all) hx4 rfl
        have x1 := cell_of (off := 1) (v := .int .i64 share) hx4 rfl
        have x2 := cell_of (off := 2) (v := .slice a1 (playL all share (A.take k)).length cap1) hx4 rfl
        have f0 := frozen_of (off := 0) hx4
        have f1 := frozen_of (off := 1) hx4
        have f2 := frozen_of (off := 2) hx4
        have HB4 := Lib.hid (HB.out.ch c4 (fun h => h) (fun h => h))
        have HC4 := Lib.hid (HC3.out.trans c4 (fun _ h _ => h))
        have HR4 := Lib.hid (c4.obj HR.out (fun h => h))
        have HX4 := Lib.hid hx4
        have HS4 := Lib.hid hs4
        clear hx4 c4 hs4
        go_wp2
        go_roundw
        case rel =>
          refine ⟨k + 1, by omega, by go_num, ?_⟩
          rw [HPS.out, stepL, if_pos HL.out]
          exact stored HB4.out HX4.out HS4.out HR4.out HC4.out far
        case measure => simp [intOf]; omega
      · have hl' : A[k].2.2 = false := by simpa using hl
        have HL := Lib.hid hl
        clear hl
        go_wp2_with fail
        have hp2 := HP2.out (.cells #[.string A[k].1, .int .i64 A[k].2.1, .bool false] 26)
        refine (add_any hp2.book (by omega) (by unfold maxLen; omega)).mono ?_
        rintro e w3 ⟨rfl, B3, c3⟩
        obtain ⟨⟨a1, cap1, hx, hs⟩, hr, hch⟩ := hp2.booked c3
        have ho := c3.obj (obj_new wr (.cells #[.string A[k].1, .int .i64 A[k].2.1, .bool false] 26)) (hp2.book.obj_ne (obj_new _ _) (by decide))
        have x0 := cell_of (off := 0) (v := .int .i64 all) hx rfl
        have x1 := cell_of (off := 1) (v := .int .i64 share) hx rfl
        have x2 := cell_of (off := 2) (v := .slice a1 (playL all share (A.take k)).length cap1) hx rfl
        have n0 := cell_of (off := 0) (v := .string A[k].1) ho rfl
        have n1 := cell_of (off := 1) (v := .int .i64 A[k].2.1) ho rfl
        have far := hp2.far
        have HS := Lib.hid hs
        have HB := Lib.hid B3
        have HC3 := Lib.hid hch
        have HX := Lib.hid hx
        have HR := Lib.hid hr
        clear hs B3 hch hx hr ho c3 hp2
        go_wp2_with fail
        refine (radd_any HS.out HI2.out hlen').mono ?_
        rintro e w4 ⟨a2, cap2, rfl, hs4, c4⟩
        have hx4 := c4.obj HX.out (fun h => h)
        have x0 := cell_of (off := 0) (v := .int .i64 all) hx4 rfl
        have x1 := cell_of (off := 1) (v := .int .i64 share) hx4 rfl
        have x2 := cell_of (off := 2) (v := .slice a1 (playL all share (A.take k)).length cap1) hx4 rfl
        have f0 := frozen_of (off := 0) hx4
        have f1 := frozen_of (off := 1) hx4
        have f2 := frozen_of (off := 2) hx4
        have HB4 := Lib.hid (HB.out.ch c4 (fun h => h) (fun h => h))
        have HC4 := Lib.hid (HC3.out.trans c4 (fun _ h _ => h))
        have HR4 := Lib.hid (c4.obj HR.out (fun h => h))
        have HX4 := Lib.hid hx4
        have HS4 := Lib.hid hs4
        clear hx4 c4 hs4
        go_wp2
        go_roundw
        case rel =>
          refine ⟨k + 1, by omega, by go_num, ?_⟩
          rw [HPS.out, stepL, if_neg HL.out]
          exact stored HB4.out HX4.out HS4.out HR4.out HC4.out far
        case measure => simp [intOf]; omega
    · obtain rfl : k = A.length := by omega
      have ht : playL all share (A.take A.length) = playL all share A := by rw [List.take_length]
      rw [ht] at hp
      obtain ⟨a1, cap1, hx, hs⟩ := hp.box
      have x0 := cell_of (off := 0) (v := .int .i64 all) hx rfl
      have x1 := cell_of (off := 1) (v := .int .i64 share) hx rfl
      have x2 := cell_of (off := 2) (v := .slice a1 (playL all share A).length cap1) hx rfl
      have z0 := cell_of (off := 0) (v := .int .i64 0) hp.slot rfl
      have z1 := cell_of (off := 1) (v := .int .i64 0) hp.slot rfl
      have z2 := cell_of (off := 2) (v := .slice none 0 0) hp.slot rfl
      have f0 := frozen_of (off := 0) hp.slot
      have f1 := frozen_of (off := 1) hp.slot
      have f2 := frozen_of (off := 2) hp.slot
      have far := hp.far
      have HPP := Lib.hid hp
      have HSS := Lib.hid hs
      clear hp hs hx ht hi hlen HN
      go_wp2
      go_region
      go_wp2
      refine bodyPost_ret (v := .tuple #[.pointer (some ⟨b, 0, none⟩), refV all share (.slice a1 (playL all share A).length cap1), .bool true]) (by simp [results, Try.results11, go_sem, z0, z1, z2]) rfl ⟨b, m, a1, cap1, rfl, far.1, far.2.1, ?_, ?_, ?_⟩
      all_goals
        have c := ((((Ch.refl (fun k => k = w.heap.size) wr).setCell (p := ⟨w.heap.size, 0, none⟩) (.inl rfl) (.int .i64 all)).setCell (p := ⟨w.heap.size, 1, none⟩) (.inl rfl) (.int .i64 share)).setCell (p := ⟨w.heap.size, 2, none⟩) (.inl rfl) (.slice a1 (playL all share A).length cap1)).drew
        have hne := HPP.out.book.obj_ne HPP.out.slot (by decide)
      · exact (HPP.out.book.ch c (fun e => hne (.inl e.symm)) (fun e => hne (.inr e.symm))).mono hA
      · refine HSS.out.chT c ?_
        rintro g cur z hg _ rfl
        rw [HPP.out.slot] at hg
        cases hg
      · exact HPP.out.ch.trans c (fun k hk hl => by omega)
end Go.Proofs.Yteadclkpoikobaa
