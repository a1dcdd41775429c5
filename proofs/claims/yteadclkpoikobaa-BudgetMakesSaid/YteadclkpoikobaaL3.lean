/- Behind any acts no tenant has more than its share, and all together no more than there is room for: the walk of BudgetHolds. Conditions: the arguments lie in memory. -/
import Derived.Test.YteadclkpoikobaaL2
import Derived.Test.YteadclkpoikobaaB5
namespace Go.Proofs.Yteadclkpoikobaa
open Go.RowKit Go.Maps Go.ChangeMaps Go.WideMaps

theorem sumT_append (L : List Ln) (T : List ByteArray) (t : ByteArray) : sumT L (T ++ [t]) = sumT L T + ofL L t := by
  induction T with
  | nil => simp [sumT]
  | cons x r ih => simp only [List.cons_append, sumT, ih]; omega
theorem sumT_take (L : List Ln) (T : List ByteArray) (k : Nat) (h : k < T.length) : sumT L (T.take (k + 1)) = sumT L (T.take k) + ofL L T[k] := by
  rw [List.take_succ_eq_append_getElem h, sumT_append]
theorem sumT_nonneg {all share : Int} {L : List Ln} (h : Inv all share L) (T : List ByteArray) : 0 ≤ sumT L T := by
  induction T with
  | nil => simp [sumT]
  | cons x r ih => have := (ofL_rng h x).1; simp only [sumT]; omega
theorem sumT_take_le {all share : Int} {L : List Ln} (h : Inv all share L) (T : List ByteArray) (k : Nat) : sumT L (T.take k) ≤ sumT L T := by
  have : T = T.take k ++ T.drop k := (List.take_append_drop k T).symm
  have e : ∀ A B : List ByteArray, sumT L (A ++ B) = sumT L A + sumT L B := fun A B => by
    induction A with
    | nil => simp [sumT]
    | cons x r ih => simp only [List.cons_append, sumT, ih]; omega
  have h2 := e (T.take k) (T.drop k)
  rw [← this] at h2
  have := sumT_nonneg h (T.drop k)
  omega
theorem ten_size {all share : Int} {L : List Ln} {T : List ByteArray} (h : IsTen T L) (hi : Inv all share L) {t : ByteArray} (ht : t ∈ T) : t.size ≤ 200 := by
  have h0 := (h.mem t).1 ht
  by_cases hk : t ∈ L.map (·.1)
  · obtain ⟨x, hx, rfl⟩ := List.mem_map.1 hk
    exact (hi.rng x hx).2.2
  · exact absurd (ofL_none hk) h0

/-- what the loop over the tenants keeps -/
structure HS (w : World) (x y : Int) (b m : Nat) (L : List Ln) (N : Nat) (ta : Option Addr) (T : List ByteArray) (W : World) : Prop where
  book : BookL W b m x y L N
  ten : Sl W 9 ta T.length 1 (strs T)
  room : W.heap[w.heap.size]? = some (.cells #[.int .i64 x, .int .i64 y] 23)
  ch : Ch (fun _ => False) w W
theorem HS.drewN {w : World} {x y : Int} {b m N : Nat} {L : List Ln} {ta : Option Addr} {T : List ByteArray} {W : World} (h : HS w x y b m L N ta T W) (k : Nat) : HS w x y b m L N ta T (W.drewN k) :=
  ⟨h.book.drewN k, h.ten.ch (chN _ _ _) noF, h.room, h.ch.trans (chN _ _ _) (fun _ h _ => h)⟩
theorem smallA_of {A : List Ac} (h : smallA A = true) : shortA A = true ∧ A.length ≤ 60 := by
  unfold smallA at h
  rw [Bool.and_eq_true] at h
  exact ⟨h.1, by simpa using h.2⟩

set_option maxRecDepth 100000 in
set_option maxHeartbeats 2000000 in
theorem holds_walk {x y : Int} {A : List Ac} {a : Option Addr} {cap : Nat} {w : World} (h : Ag w a A.length 3 (flatA A)) :
    Calls Try.prog 5 #[.agg #[.int .i64 x, .int .i64 y], .slice a A.length cap] w fun e w' => e = .returned (.bool true) ∧ Ch (fun _ => False) w w' := by
  have HA := Lib.hid h
  clear h
  by_cases hs : smallA A = true
  · by_cases hg : 0 ≤ y ∧ y ≤ x ∧ x ≤ 1125899906842624
    · obtain ⟨g0, g1, g2⟩ := hg
      obtain ⟨hsh, hA⟩ := smallA_of hs
      have HI := Lib.hid ((Inv.nil g0 g1 g2).play A)
      have HP := fun W (hc : Ag W a A.length 3 (flatA A)) => Lib.hid (play_yes (cap := cap) hc hA hsh g0 g1 g2)
      go_enter Try.func5, Try.ntmps5
      go_wp2_with fail
      refine (wakes_any _).mono ?_
      rintro e w1 ⟨rfl, c1⟩
      go_wp2_with fail
      refine (small_any ((HA.out.ch ((Ch.refl _ w).alloc _)).ch c1)).mono ?_
      rintro e w2 ⟨rfl, c2⟩
      have c12 := c1.trans c2 (fun _ h _ => h)
      have o := c12.obj (obj_new w (.cells #[.int .i64 x, .int .i64 y] 23)) (fun h => h)
      have x0 := cell_of (off := 0) (v := .int .i64 x) o rfl
      have x1 := cell_of (off := 1) (v := .int .i64 y) o rfl
      have HC := Lib.hid (((Ch.refl (fun _ => False) w).alloc (.cells #[.int .i64 x, .int .i64 y] 23)).trans c12 (fun _ h _ => h))
      have HO := Lib.hid o
      clear c1 c2 c12 o
      go_wp2_with fail
      refine (HP _ (HA.out.ch HC.out)).out.mono ?_
      rintro e w3 ⟨b, m, a', cap', rfl, hb, hm, B3, _, c3⟩
      generalize playL x y A = L at *
      have o3 := c3.obj HO.out (fun h => h)
      have B4 := B3.ch ((Ch.refl (fun _ => False) w3).alloc (.cells #[.int .i64 x, .int .i64 y, .slice a' L.length cap'] 32)) (fun h => h) (fun h => h)
      go_wp2_with fail
      refine (tenants_any B4 (by omega)).mono ?_
      rintro e w5 ⟨T, ta, tc, rfl, hT, hI, hTn, c5⟩
      have hs0 := sumT_nonneg HI.out T
      have hmx := hT.max
      unfold maxLen at hmx
      have CC := ((HC.out.trans c3 (fun _ h _ => h)).alloc (.cells #[.int .i64 x, .int .i64 y, .slice a' L.length cap'] 32)).trans c5 (fun _ h _ => h)
      have B5 := B4.ch c5 (fun h => h) (fun h => h)
      have o5 := c5.obj (obj_alloc (o' := .cells #[.int .i64 x, .int .i64 y, .slice a' L.length cap'] 32) o3) (fun h => h)
      have HH : HS w x y b m L 60 ta T w5 := ⟨B5, hT, o5, CC⟩
      have HI2 := Lib.hid hI
      clear B3 B4 B5 o3 o5 CC hT hI c3 c5 HO
      have HIT := HI2
      go_wp2_with fail
      go_loopw [31, 8, 10] (fun i n _ wr => ∃ k : Nat, k ≤ T.length ∧ i = .int .i64 k ∧ n = .int .i64 (sumT L (T.take k)) ∧ HS w x y b m L 60 ta T wr) (fun i _ _ _ => T.length - (intOf i).toNat)
      case atStart => exact ⟨0, Nat.zero_le _, rfl, rfl, HH⟩
      case round =>
        obtain ⟨k, hk, rfl, rfl, hh⟩ := hrel
        have x0 := cell_of (off := 0) (v := .int .i64 x) hh.room rfl
        have x1 := cell_of (off := 1) (v := .int .i64 y) hh.room rfl
        clear HH
        by_cases hlt : k < T.length
        · obtain ⟨g, rfl, hg, hcells⟩ := hh.ten.cells (by omega)
          have d0 := hcells _ _ (strs_get T k hlt)
          have hts := ten_size HIT.out HI.out (List.getElem_mem hlt)
          have hne := (HIT.out.mem T[k]).1 (List.getElem_mem hlt)
          have r0 := (ofL_rng HI.out T[k]).1
          have r1 := (ofL_rng HI.out T[k]).2
          have r2 : 0 < ofL L T[k] := by omega
          have r3 := sumT_nonneg HI.out (T.take k)
          have r4 : sumT L (T.take k) + ofL L T[k] ≤ 1125899906842624 := by
            have h1 := sumT_take_le HI.out T (k + 1)
            rw [sumT_take L T k hlt] at h1
            have h2 := HIT.out.sum HI.out.nodup
            have h3 := HI.out.sum
            omega
          have r5 : decide (y < ofL L T[k]) = false := by simpa using r1
          have HQ := Lib.hid (sumT_take L T k hlt)
          have HW := Lib.hid hh
          clear hcells hne r0 hh
          go_wp2_with fail
          go_quiet ((go_at_call 16; exact quiet (of_any (HW.out.book.drewN _) (by unfold maxLen; omega))))
          go_wp2_with (go_at_call 16; refine (of_any (HW.out.book.drewN _) (by unfold maxLen; omega)).mono ?_; rintro e w' ⟨rfl, rfl⟩)
          go_roundw
          case rel => exact ⟨k + 1, by omega, by go_num, by rw [HQ.out], HW.out.drewN _⟩
          case measure => simp [intOf]; omega
        · obtain rfl : k = T.length := by omega
          have hbq : (sumT L T == sumL L) = true := by rw [HIT.out.sum HI.out.nodup]; simp
          have hsm := HI.out.sum
          have hsm2 : sumT L T ≤ x := by rw [HIT.out.sum HI.out.nodup]; exact hsm
          have HW := Lib.hid hh
          clear hh
          go_wp2_with (go_at_call 23; refine (all_any HW.out.book).mono ?_; rintro e w' ⟨rfl, rfl⟩)
          go_ret
          exact ⟨by simp, HW.out.ch⟩
    · obtain ⟨hsh, hA⟩ := smallA_of hs
      have HP := fun W v => Lib.hid (play_no (v := v) (w := W) hg)
      clear hg
      go_enter Try.func5, Try.ntmps5
      go_wp2_with fail
      refine (wakes_any _).mono ?_
      rintro e w1 ⟨rfl, c1⟩
      go_wp2_with fail
      refine (small_any ((HA.out.ch ((Ch.refl _ w).alloc _)).ch c1)).mono ?_
      rintro e w2 ⟨rfl, c2⟩
      have c12 := c1.trans c2 (fun _ h _ => h)
      have o := c12.obj (obj_new w (.cells #[.int .i64 x, .int .i64 y] 23)) (fun h => h)
      have x0 := cell_of (off := 0) (v := .int .i64 x) o rfl
      have x1 := cell_of (off := 1) (v := .int .i64 y) o rfl
      have HC := Lib.hid (((Ch.refl (fun _ => False) w).alloc (.cells #[.int .i64 x, .int .i64 y] 23)).trans c12 (fun _ h _ => h))
      clear c1 c2 c12 o
      go_wp2_with fail
      refine (HP _ _).out.mono ?_
      rintro e w3 ⟨u, rfl, ⟨a', cap', rfl⟩, c3⟩
      go_wp2_with fail
      go_ret
      exact ⟨rfl, (HC.out.trans c3 (fun _ h _ => h)).alloc _⟩
  · have hs' : smallA A = false := by simpa using hs
    clear hs
    go_enter Try.func5, Try.ntmps5
    go_wp2_with fail
    refine (wakes_any _).mono ?_
    rintro e w1 ⟨rfl, c1⟩
    go_wp2_with fail
    refine (small_any ((HA.out.ch ((Ch.refl _ w).alloc _)).ch c1)).mono ?_
    rintro e w2 ⟨rfl, c2⟩
    go_wp2_with fail
    go_ret
    exact ⟨rfl, (((Ch.refl (fun _ => False) w).alloc _).trans c1 (fun _ h _ => h)).trans c2 (fun _ h _ => h)⟩
end Go.Proofs.Yteadclkpoikobaa
