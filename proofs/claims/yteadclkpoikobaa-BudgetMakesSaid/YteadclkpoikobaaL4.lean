/- The statements' own helper 'same': both books are alike. Conditions: the books and the acts lie in memory. -/
import Derived.Test.YteadclkpoikobaaL3
import Derived.Test.YteadclkpoikobaaR5
namespace Go.Proofs.Yteadclkpoikobaa
open Go.RowKit Go.Maps Go.ChangeMaps Go.WideMaps

/-- what 'same' keeps -/
structure SW (w : World) (b m : Nat) (all share : Int) (L : List Ln) (n : Nat) (a : Option Addr) (cap : Nat) (al : Option Addr) (A : List Ac) (W : World) : Prop where
  book : BookL W b m all share L n
  rs : RS w w.heap.size all share (.slice a L.length cap) a L.length (flat L) W
  ag : Ag W al A.length 3 (flatA A)
section
variable {w : World} {b m n : Nat} {all share : Int} {L : List Ln} {a al : Option Addr} {cap : Nat} {A : List Ac} {W W' : World}
theorem SW.step (h : SW w b m all share L n a cap al A W) (c : Ch (fun _ => False) W W') : SW w b m all share L n a cap al A W' := ⟨h.book.ch c (fun h => h) (fun h => h), h.rs.step c, h.ag.ch c⟩
theorem SW.box (h : SW w b m all share L n a cap al A W) : W.cell? ⟨w.heap.size, 0, none⟩ = some (.int .i64 all) ∧ W.cell? ⟨w.heap.size, 1, none⟩ = some (.int .i64 share) ∧ W.cell? ⟨w.heap.size, 2, none⟩ = some (.slice a L.length cap) := ⟨h.rs.c0, h.rs.c1, h.rs.c2⟩
theorem all_sw (h : SW w b m all share L n a cap al A W) : Calls Try.prog 23 #[.pointer (some ⟨b, 0, none⟩)] W fun e W' => e = .returned (.int .i64 (sumL L)) ∧ SW w b m all share L n a cap al A W' :=
  (all_any h.book).mono fun _ _ ⟨he, hw⟩ => ⟨he, hw ▸ h⟩
theorem rsum_sw (h : SW w b m all share L n a cap al A W) : Calls Try.prog 34 #[refV all share (.slice a L.length cap)] W fun e W' => e = .returned (.int .i64 (sumL L)) ∧ SW w b m all share L n a cap al A W' :=
  (rsum_any h.rs.sl (fun x hx => (h.book.inv.rng x hx).1) (Int.le_trans h.book.inv.sum h.book.inv.all1)).mono fun _ _ ⟨he, hc⟩ => ⟨he, h.step hc⟩
theorem of_sw {t : ByteArray} (ht : t.size ≤ maxLen) (h : SW w b m all share L n a cap al A W) : Calls Try.prog 16 #[.pointer (some ⟨b, 0, none⟩), .string t] W fun e W' => e = .returned (.int .i64 (ofL L t)) ∧ SW w b m all share L n a cap al A W' :=
  (of_any h.book ht).mono fun _ _ ⟨he, hw⟩ => ⟨he, hw ▸ h⟩
theorem rof_sw {t : ByteArray} (h : SW w b m all share L n a cap al A W) : Calls Try.prog 32 #[refV all share (.slice a L.length cap), .string t] W fun e W' => e = .returned (.int .i64 (ofL L t)) ∧ SW w b m all share L n a cap al A W' :=
  (rof_any h.rs.sl).mono fun _ _ ⟨he, hc⟩ => ⟨he, h.step hc⟩
end

/-- SW, and the box of the act under way -/
structure SB (w : World) (b m : Nat) (all share : Int) (L : List Ln) (n : Nat) (a : Option Addr) (cap : Nat) (al : Option Addr) (A : List Ac) (p : Nat) (x : Ac) (W : World) : Prop where
  sw : SW w b m all share L n a cap al A W
  obj : W.heap[p]? = some (.cells #[.string x.1, .int .i64 x.2.1, .bool x.2.2] 26)
section
variable {w : World} {b m n p : Nat} {all share : Int} {L : List Ln} {a al : Option Addr} {cap : Nat} {A : List Ac} {W W' : World} {x : Ac}
theorem SB.step (h : SB w b m all share L n a cap al A p x W) (c : Ch (fun _ => False) W W') : SB w b m all share L n a cap al A p x W' := ⟨h.sw.step c, c.obj h.obj (fun h => h)⟩
theorem of_sb (ht : x.1.size ≤ maxLen) (h : SB w b m all share L n a cap al A p x W) : Calls Try.prog 16 #[.pointer (some ⟨b, 0, none⟩), .string x.1] W fun e W' => e = .returned (.int .i64 (ofL L x.1)) ∧ SB w b m all share L n a cap al A p x W' :=
  (of_any h.sw.book ht).mono fun _ _ ⟨he, hw⟩ => ⟨he, hw ▸ h⟩
theorem rof_sb (h : SB w b m all share L n a cap al A p x W) : Calls Try.prog 32 #[refV all share (.slice a L.length cap), .string x.1] W fun e W' => e = .returned (.int .i64 (ofL L x.1)) ∧ SB w b m all share L n a cap al A p x W' :=
  (rof_any h.sw.rs.sl).mono fun _ _ ⟨he, hc⟩ => ⟨he, h.step hc⟩
end

set_option maxRecDepth 100000 in
set_option maxHeartbeats 2000000 in
theorem same_any {b m n : Nat} {all share : Int} {L : List Ln} {a al : Option Addr} {cap capl : Nat} {A : List Ac} {w : World} (hb : BookL w b m all share L n) (hn : n < 1000000) (hs : Sl w 71 a L.length 2 (flat L)) (hlen : L.length < 1000000) (hg : Ag w al A.length 3 (flatA A)) (hsh : shortA A = true) :
    Calls Try.prog 22 #[.pointer (some ⟨b, 0, none⟩), refV all share (.slice a L.length cap), .slice al A.length capl] w fun e w' => e = .returned (.bool true) ∧ Ch (fun _ => False) w w' := by
  have HI := Lib.hid hb.inv
  have HS : SW w b m all share L n a cap al A (w.alloc (.cells #[.int .i64 all, .int .i64 share, .slice a L.length cap] 32)) :=
    ⟨hb.ch ((Ch.refl (fun _ => False) w).alloc _) (fun h => h) (fun h => h), RS.start hs, hg.ch ((Ch.refl _ w).alloc _)⟩
  have HN := fun k hk => Lib.hid (show (A.get ⟨k, hk⟩).1.size ≤ 300 from by have := List.all_eq_true.1 hsh _ (List.getElem_mem hk); simpa using this)
  have s0 := hb.inv.sum0
  clear hb hs hg hsh
  go_enter Try.func22, Try.ntmps22
  go_wp2_with fail
  have b0 : ∀ s : Kept (SW w b m all share L n a cap al A), s.W.cell? ⟨w.heap.size, 0, none⟩ = some (.int .i64 all) := fun s => s.h.rs.c0
  have b1 : ∀ s : Kept (SW w b m all share L n a cap al A), s.W.cell? ⟨w.heap.size, 1, none⟩ = some (.int .i64 share) := fun s => s.h.rs.c1
  have b2 : ∀ s : Kept (SW w b m all share L n a cap al A), s.W.cell? ⟨w.heap.size, 2, none⟩ = some (.slice a L.length cap) := fun s => s.h.rs.c2
  have ne : Nonempty (Kept (SW w b m all share L n a cap al A)) := ⟨⟨_, HS⟩⟩
  refine region_in (SW w b m all share L n a cap al A) (by kernel_rfl) (by kernel_rfl) (HS.step (Ch.refl _ _).drew) ?_
  repeat (go_big_quiet_step ((first | (go_at_call 23; exact Calls.inK (all_sw (Kept.h _))) | (go_at_call 34; exact Calls.inK (rsum_sw (Kept.h _))))))
  refine wpQuiet_nil ?_
  rintro w1 ⟨⟨w1', h1⟩, hw1⟩
  dsimp only at hw1
  subst hw1
  clear b0 b1 b2 ne HS
  go_wp2_with fail
  have HD := h1.step (Ch.refl (fun _ => False) _).drew
  go_region_held3 (fun W => W.cell? ⟨w.heap.size, 0, none⟩ = some (.int .i64 all) ∧ W.cell? ⟨w.heap.size, 1, none⟩ = some (.int .i64 share) ∧ W.cell? ⟨w.heap.size, 2, none⟩ = some (.slice a L.length cap))
    (first | exact HD.box | exact hr2.box | exact hr1.box | go_keep)
    (first
      | (go_at_call 15; refine (tenants_any HD.book hn).mono ?_; rintro e w2 ⟨T, ta, tc, rfl, hT, hI, hTn, c2⟩; have hr1 := HD.step c2)
      | (go_at_call 35; refine (rten_any hr1.rs.sl hlen).mono ?_; rintro e w3 ⟨ua, uc, rfl, hU, c3⟩; have hr2 := hr1.step c3))
  obtain rfl : T = tenF L := hI.unique (tenF_ten HI.out.nodup)
  have hT3 := hT.ch c3 noF
  generalize tenF L = T at *
  have hmx := hU.max
  unfold maxLen at hmx
  clear hI hT c2 c3 hr1 HD h1
  go_wp2_with fail
  go_loopw [28, 9] (fun i _ wr => ∃ k : Nat, k ≤ T.length ∧ i = .int .i64 k ∧ SW w b m all share L n a cap al A wr ∧ Sl wr 9 ta T.length 1 (strs T) ∧ Sl wr 9 ua T.length 1 (strs T)) (fun i _ _ => T.length - (intOf i).toNat)
  case atStart => exact ⟨0, Nat.zero_le _, rfl, hr2, hT3, hU⟩
  case round =>
    obtain ⟨k, hk, rfl, hw, ht, hu⟩ := hrel
    clear hr2 hT3 hU
    by_cases hlt : k < T.length
    · obtain ⟨g1, rfl, hg1, hc1⟩ := ht.cells (by omega)
      obtain ⟨g2, rfl, hg2, hc2⟩ := hu.cells (by omega)
      have d1 := hc1 _ _ (strs_get T k hlt)
      have d2 := hc2 _ _ (strs_get T k hlt)
      have HW := Lib.hid hw
      have HT := Lib.hid ht
      have HU := Lib.hid hu
      clear hc1 hc2 hw ht hu
      go_wp2_with fail
      go_quiet (fail)
      go_wp2
      go_roundw
      case rel => exact ⟨k + 1, by omega, by go_num, HW.out.step (chN _ _ _), HT.out.ch (chN _ _ _) noF, HU.out.ch (chN _ _ _) noF⟩
      case measure => simp [intOf]; omega
    · have hma := hw.ag.max
      unfold maxLen at hma
      have HW := Lib.hid hw
      clear hw ht hu
      go_wp2_with fail
      go_loopw [43, 11] (fun i _ wr => ∃ q : Nat, q ≤ A.length ∧ i = .int .i64 q ∧ SW w b m all share L n a cap al A wr) (fun i _ _ => A.length - (intOf i).toNat)
      case atStart => exact ⟨0, Nat.zero_le _, rfl, HW.out⟩
      case round =>
        obtain ⟨q, hq, rfl, hw⟩ := hrel
        clear HW
        by_cases hlq : q < A.length
        · obtain ⟨g, o, rfl, hg, hcells⟩ := hw.ag.cells (by omega)
          obtain ⟨e0, e1, e2⟩ := flatA_get A q hlq
          have d0 := hcells _ _ e0
          have d1 := hcells _ _ e1
          have d2 := hcells _ _ e2
          rw [← Nat.add_assoc] at d1 d2
          have hsz := (HN q hlq).out
          simp only [List.get_eq_getElem] at hsz
          have HW := Lib.hid hw
          clear hcells e0 e1 e2 hw HN
          go_wp2_with fail
          have HB : SB w b m all share L n a cap (some ⟨g, o, none⟩) A wr.heap.size A[q] (wr.alloc (.cells #[.string A[q].1, .int .i64 A[q].2.1, .bool A[q].2.2] 26)) :=
            ⟨HW.out.step ((Ch.refl _ wr).alloc _), obj_new _ _⟩
          have b0 : ∀ s : Kept (SB w b m all share L n a cap (some ⟨g, o, none⟩) A wr.heap.size A[q]), s.W.cell? ⟨w.heap.size, 0, none⟩ = some (.int .i64 all) := fun s => s.h.sw.rs.c0
          have b1 : ∀ s : Kept (SB w b m all share L n a cap (some ⟨g, o, none⟩) A wr.heap.size A[q]), s.W.cell? ⟨w.heap.size, 1, none⟩ = some (.int .i64 share) := fun s => s.h.sw.rs.c1
          have b2 : ∀ s : Kept (SB w b m all share L n a cap (some ⟨g, o, none⟩) A wr.heap.size A[q]), s.W.cell? ⟨w.heap.size, 2, none⟩ = some (.slice a L.length cap) := fun s => s.h.sw.rs.c2
          have b3 : ∀ s : Kept (SB w b m all share L n a cap (some ⟨g, o, none⟩) A wr.heap.size A[q]), s.W.cell? ⟨wr.heap.size, 0, none⟩ = some (.string A[q].1) := fun s => cell_of (off := 0) s.h.obj rfl
          have ne : Nonempty (Kept (SB w b m all share L n a cap (some ⟨g, o, none⟩) A wr.heap.size A[q])) := ⟨⟨_, HB⟩⟩
          refine region_in (SB w b m all share L n a cap (some ⟨g, o, none⟩) A wr.heap.size A[q]) (by kernel_rfl) (by kernel_rfl) (HB.step (Ch.refl _ _).drew) ?_
          repeat (go_big_quiet_step ((first | (go_at_call 16; exact Calls.inK (of_sb (by unfold maxLen; omega) (Kept.h _))) | (go_at_call 32; exact Calls.inK (rof_sb (Kept.h _))))))
          refine wpQuiet_nil ?_
          rintro w1 ⟨⟨w1', h1⟩, hw1⟩
          dsimp only at hw1
          subst hw1
          clear b0 b1 b2 b3 ne HB HW
          go_wp2_with fail
          go_roundw
          case rel => exact ⟨q + 1, by omega, by go_num, h1.sw⟩
          case measure => simp [intOf]; omega
        · go_wp2_with fail
          go_ret
          exact ⟨rfl, hw.rs.ch⟩
end Go.Proofs.Yteadclkpoikobaa
