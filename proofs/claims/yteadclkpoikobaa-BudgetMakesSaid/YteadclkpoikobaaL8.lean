/- When just so many bytes went as have to, of the tenant's own and of the others, the new ones fit; with one fewer they don't: the walk of BudgetMakes. Conditions: the arguments lie in memory. -/
import Derived.Test.YteadclkpoikobaaL6
import Derived.Test.YteadclkpoikobaaPm
namespace Go.Proofs.Yteadclkpoikobaa
open Go.RowKit Go.Maps Go.ChangeMaps Go.WideMaps

/-- a book, and the act in the box P -/
structure MS (w : World) (b m : Nat) (all share : Int) (L : List Ln) (n : Nat) (P : Nat) (q : Ac) (W : World) : Prop where
  book : BookL W b m all share L n
  act : W.heap[P]? = some (.cells #[.string q.1, .int .i64 q.2.1, .bool q.2.2] 26)
  ch : Ch (fun _ => False) w W
  far : w.heap.size ≤ b ∧ w.heap.size ≤ m
section
variable {w : World} {b m n n' P : Nat} {all share : Int} {L M : List Ln} {q : Ac} {W W' : World}
theorem MS.step (h : MS w b m all share L n P q W) (c : Ch (fun _ => False) W W') : MS w b m all share L n P q W' :=
  ⟨h.book.ch c (fun h => h) (fun h => h), c.obj h.act (fun h => h), h.ch.trans c (fun _ h _ => h), h.far⟩
theorem MS.booked (h : MS w b m all share L n P q W) (hb : BookL W' b m all share M n') (c : Ch (fun k => k = b ∨ k = m) W W') : MS w b m all share M n' P q W' :=
  ⟨hb, c.obj h.act (h.book.obj_ne h.act (by decide)), h.ch.trans c (fun k hk hl => by have := h.far; rcases hk with rfl | rfl <;> omega), h.far⟩
theorem MS.p0 (h : MS w b m all share L n P q W) : W.cell? ⟨P, 0, none⟩ = some (.string q.1) := cell_of (off := 0) h.act rfl
theorem MS.p1 (h : MS w b m all share L n P q W) : W.cell? ⟨P, 1, none⟩ = some (.int .i64 q.2.1) := cell_of (off := 1) h.act rfl
theorem MS.ten (h : MS w b m all share L n P q W) {ta : Option Addr} {T : List ByteArray} (ht : Sl W 9 ta T.length 1 (strs T)) (c : Ch (fun k => k = b ∨ k = m) W W') : Sl W' 9 ta T.length 1 (strs T) :=
  ht.chT c (fun g cur z hg _ => h.book.obj_ne hg (by decide))
end

set_option maxRecDepth 100000 in
set_option maxHeartbeats 2000000 in
theorem makes_walk {x y : Int} {A : List Ac} {q : Ac} {a : Option Addr} {cap : Nat} {w : World} (h : Ag w a A.length 3 (flatA A)) :
    Calls Try.prog 3 #[.agg #[.int .i64 x, .int .i64 y], .slice a A.length cap, .agg #[.string q.1, .int .i64 q.2.1, .bool q.2.2]] w fun e w' => e = .returned (.bool true) ∧ Ch (fun _ => False) w w' := by
  have HA := Lib.hid h
  clear h
  have HC0 := ((Ch.refl (fun _ => False) w).alloc (.cells #[.int .i64 x, .int .i64 y] 23)).alloc (.cells #[.string q.1, .int .i64 q.2.1, .bool q.2.2] 26)
  by_cases hs : smallA A = true
  · obtain ⟨hsh, hA⟩ := smallA_of hs
    by_cases hq : q.1.size ≤ 200
    · by_cases hg : 0 ≤ y ∧ y ≤ x ∧ x ≤ 1125899906842624
      · obtain ⟨g0, g1, g2⟩ := hg
        have HI := Lib.hid ((Inv.nil g0 g1 g2).play A)
        have HL := Lib.hid (length_playL60 x y A hA)
        have HP := fun W (hc : Ag W a A.length 3 (flatA A)) => Lib.hid (play_yes (cap := cap) hc hA hsh g0 g1 g2)
        go_enter Try.func3, Try.ntmps3
        go_wp2_with fail
        refine (wakes_any _).mono ?_
        rintro e w1 ⟨rfl, c1⟩
        go_wp2_with fail
        refine (small_any ((HA.out.ch HC0).ch c1)).mono ?_
        rintro e w2 ⟨rfl, c2⟩
        have c12 := c1.trans c2 (fun _ h _ => h)
        have HC := Lib.hid (HC0.trans c12 (fun _ h _ => h))
        have o := c12.obj (obj_alloc (o' := .cells #[.string q.1, .int .i64 q.2.1, .bool q.2.2] 26) (obj_new w (.cells #[.int .i64 x, .int .i64 y] 23))) (fun h => h)
        have o2 := c12.obj (obj_new (w.alloc (.cells #[.int .i64 x, .int .i64 y] 23)) (.cells #[.string q.1, .int .i64 q.2.1, .bool q.2.2] 26)) (fun h => h)
        rw [show (w.alloc (.cells #[.int .i64 x, .int .i64 y] 23)).heap.size = w.heap.size + 1 by simp] at o2
        have x0 := cell_of (off := 0) (v := .int .i64 x) o rfl
        have x1 := cell_of (off := 1) (v := .int .i64 y) o rfl
        have p0 := cell_of (off := 0) (v := .string q.1) o2 rfl
        have HO := Lib.hid o
        have HO2 := Lib.hid o2
        clear c1 c2 c12 o o2 HC0
        go_wp2_with fail
        refine (HP _ (HA.out.ch HC.out)).out.mono ?_
        rintro e w3 ⟨b, m, a', cap', rfl, hb, hm, B3, S3, c3⟩
        generalize playL x y A = L at *
        have hO : MS w b m x y L 60 (w.heap.size + 1) q (w3.alloc (.cells #[.int .i64 x, .int .i64 y, .slice a' L.length cap'] 32)) :=
          ⟨B3.ch ((Ch.refl (fun _ => False) w3).alloc _) (fun h => h) (fun h => h), obj_alloc (c3.obj HO2.out (fun h => h)), (HC.out.trans c3 (fun _ h _ => h)).alloc _, ⟨by have := HC.out.size; omega, by have := HC.out.size; omega⟩⟩
        have p0 := hO.p0
        have p1 := hO.p1
        have HO3 := Lib.hid hO
        clear B3 S3 c3 hb hm HO HO2 hO
        go_wp2_with fail
        refine (over_any HO3.out.book (by unfold maxLen; omega)).mono ?_
        rintro e w4 ⟨rfl, k, rfl⟩
        have hO := HO3.out.step (chN _ _ k)
        clear HO3
        by_cases he : (overR x y L q.1 q.2.1).2.2 = 0
        · have hov := over_ov HI.out hq he
          generalize hr : overR x y L q.1 q.2.1 = r at *
          obtain ⟨own, any_, e0⟩ := r
          have HE : e0 = 0 := he
          subst HE
          clear hr he
          have ov : Ov x y L q.1 q.2.1 own any_ := hov
          clear hov
          have HV := Lib.hid ov
          rcases (show (own = 0 ∧ any_ = 0) ∨ (own = 0 ∧ 0 < any_) ∨ (0 < own ∧ any_ = 0) ∨ (0 < own ∧ 0 < any_) by have := ov.own0; have := ov.any0; omega) with ⟨rfl, rfl⟩ | ⟨rfl, h2⟩ | ⟨h1, rfl⟩ | ⟨h1, h2⟩
          · have hf : decide (addE x y L q.1 q.2.1 = 0) = true := by first | (simp [ov.fits]; done) | (simp [ov.fits]; omega)
            have HF := Lib.hid hf
            clear hf
            have p0 := hO.p0
            have p1 := hO.p1
            go_wp2_with fail
            refine (fits_any hO.book (by unfold maxLen; omega)).mono ?_
            rintro e w5 ⟨rfl, k2, rfl⟩
            rw [HF.out]
            have hO2 := hO.step (chN _ _ k2)
            rw [World.drewN_drewN] at hO2
            have p0 := hO2.p0
            have p1 := hO2.p1
            clear hO
            have HO2 := Lib.hid hO2
            clear hO2
            go_wp2_with fail
            refine (less_any HO2.out.book (by omega) (by unfold maxLen; omega)).mono ?_
            rintro e w6 ⟨rfl, B6, c6⟩
            rw [HV.out.less]
            have hO3 := HO2.out.booked B6 c6
            have p0 := hO3.p0
            have p1 := hO3.p1
            have HO3 := Lib.hid hO3
            clear B6 c6 HO2 hO3
            go_wp2_with fail
            have hO4 := HO3.out
            clear HO3
            refine (tenants_any hO4.book (by omega)).mono ?_
            rintro e w8 ⟨T, ta, tc, rfl, hT, hI, hTn, c8⟩
            have hO5 := hO4.step c8
            have H0 := Lib.hid (MI.start HV.out HI.out T)
            have HIT := Lib.hid hI
            have HI1 := Lib.hid (HI.out.less q.1 0)
            have HIQ := Lib.hid HV.out.q
            have HIV := Lib.hid HV.out.le
            have hmx := hT.max
            unfold maxLen at hmx
            clear hO4 c8 hI HF HV ov
            generalize lessL L q.1 0 = L1 at *
            go_wp2_with fail
            go_loopw [88, 11, 14, 15] (fun i c _ _ wr => ∃ (k : Nat) (z : Int) (M : List Ln), k ≤ T.length ∧ i = .int .i64 k ∧ c = .int .i64 z ∧ Hid (MI x y L1 q.1 q.2.1 T k z M) ∧ MS w b m x y M (61 + k) (w.heap.size + 1) q wr ∧ Sl wr 9 ta T.length 1 (strs T)) (fun i _ _ _ _ => T.length - (intOf i).toNat)
            case atStart => exact ⟨0, _, _, Nat.zero_le _, rfl, rfl, H0, hO5, hT⟩
            case round =>
              obtain ⟨k, z, M, hk, rfl, rfl, hmi, hms, hts⟩ := hrel
              have z0 := hmi.out.c0
              have z1 := hmi.out.cB
              clear H0 hO5 hT
              by_cases hlt : k < T.length
              · obtain ⟨g, rfl, hg, hcells⟩ := hts.cells (by omega)
                have d0 := hcells _ _ (strs_get T k hlt)
                have htz := ten_size HIT.out HI1.out (List.getElem_mem hlt)
                have r0 := (ofL_rng hmi.out.inv T[k]).1
                have r1 := (ofL_rng hmi.out.inv T[k]).2
                have r2 := hmi.out.inv.share1
                have r3 := hmi.out.inv.all1
                have p0 := hms.p0
                have p1 := hms.p1
                have HMS := Lib.hid hms
                have HTS := Lib.hid hts
                clear hcells hms hts
                generalize hof : ofL M T[k] = f at *
                have HOF := Lib.hid hof
                clear hof
                go_wp2_with fail
                refine (of_any HMS.out.book (by unfold maxLen; omega)).mono ?_
                rintro e w9 ⟨rfl, rfl⟩
                rw [HOF.out]
                have hmz : Hid (min z f = min z (ofL M T[k])) := by unfold Hid; rw [HOF.out]
                have m0 : 0 ≤ min z f := by omega
                have m1 : min z f ≤ z := by omega
                by_cases hz : 0 < z
                · have nf := Lib.hid (decide_eq_false (hmi.out.notfit HIQ.out hz))
                  go_wp2_with fail
                  refine (fits_any HMS.out.book (by unfold maxLen; omega)).mono ?_
                  rintro e w11 ⟨rfl, k5, rfl⟩
                  rw [nf.out]
                  have HM2 := Lib.hid (HMS.out.step (chN _ _ k5))
                  have HT2 := Lib.hid (HTS.out.ch (chN _ _ k5) noF)
                  clear HMS HTS
                  go_wp2_with fail
                  obtain ⟨s0, s1, s2⟩ := hmi.out.step (m := min z f) HIT.out.nodup hlt htz hmz.out
                  refine (less_any HM2.out.book (by omega) (by unfold maxLen; omega)).mono ?_
                  rintro e w12 ⟨rfl, B12, c12⟩
                  rw [s1]
                  have HN := Lib.hid (HM2.out.booked B12 c12)
                  have HTN := Lib.hid (HM2.out.ten HT2.out c12)
                  have HS2 := Lib.hid s2
                  clear s0 s1 s2 B12 c12 HM2 HT2
                  go_wp2_with fail
                  go_roundw
                  case rel => exact ⟨k + 1, _, _, by omega, by go_num, by go_num, HS2.out, HN.out, HTN.out⟩
                  case measure => simp [intOf]; omega
                · go_wp2_with fail
                  have HM2 := HMS
                  have HT2 := HTS
                  clear HMS HTS
                  obtain ⟨s0, s1, s2⟩ := hmi.out.step (m := min z f) HIT.out.nodup hlt htz hmz.out
                  refine (less_any HM2.out.book (by omega) (by unfold maxLen; omega)).mono ?_
                  rintro e w12 ⟨rfl, B12, c12⟩
                  rw [s1]
                  have HN := Lib.hid (HM2.out.booked B12 c12)
                  have HTN := Lib.hid (HM2.out.ten HT2.out c12)
                  have HS2 := Lib.hid s2
                  clear s0 s1 s2 B12 c12 HM2 HT2
                  go_wp2_with fail
                  go_roundw
                  case rel => exact ⟨k + 1, _, _, by omega, by go_num, by go_num, HS2.out, HN.out, HTN.out⟩
                  case measure => simp [intOf]; omega
              · obtain rfl : k = T.length := by omega
                obtain ⟨rfl, hadd⟩ := hmi.out.fin HI1.out HIT.out HIQ.out HIV.out
                have p0 := hms.p0
                have p1 := hms.p1
                have HA0 := Lib.hid hadd
                have HMS := Lib.hid hms
                clear hms hts hadd
                go_wp2_with fail
                refine (add_any HMS.out.book (by omega) (by unfold maxLen; omega)).mono ?_
                rintro e w10 ⟨rfl, B10, c10⟩
                rw [HA0.out]
                go_wp2_with fail
                go_ret
                exact ⟨rfl, (HMS.out.booked B10 c10).ch⟩
          · have hf : decide (addE x y L q.1 q.2.1 = 0) = false := by first | (simp [ov.fits]; done) | (simp [ov.fits]; omega)
            have HF := Lib.hid hf
            clear hf
            have p0 := hO.p0
            have p1 := hO.p1
            go_wp2_with fail
            refine (fits_any hO.book (by unfold maxLen; omega)).mono ?_
            rintro e w5 ⟨rfl, k2, rfl⟩
            rw [HF.out]
            have hO2 := hO.step (chN _ _ k2)
            rw [World.drewN_drewN] at hO2
            have p0 := hO2.p0
            have p1 := hO2.p1
            clear hO
            have HO2 := Lib.hid hO2
            clear hO2
            go_wp2_with fail
            refine (less_any HO2.out.book (by omega) (by unfold maxLen; omega)).mono ?_
            rintro e w6 ⟨rfl, B6, c6⟩
            rw [HV.out.less]
            have hO3 := HO2.out.booked B6 c6
            have p0 := hO3.p0
            have p1 := hO3.p1
            have HO3 := Lib.hid hO3
            clear B6 c6 HO2 hO3
            go_wp2_with fail
            have hO4 := HO3.out
            clear HO3
            refine (tenants_any hO4.book (by omega)).mono ?_
            rintro e w8 ⟨T, ta, tc, rfl, hT, hI, hTn, c8⟩
            have hO5 := hO4.step c8
            have H0 := Lib.hid (MI.start HV.out HI.out T)
            have HIT := Lib.hid hI
            have HI1 := Lib.hid (HI.out.less q.1 0)
            have HIQ := Lib.hid HV.out.q
            have HIV := Lib.hid HV.out.le
            have hmx := hT.max
            unfold maxLen at hmx
            clear hO4 c8 hI HF HV ov
            generalize lessL L q.1 0 = L1 at *
            go_wp2_with fail
            go_loopw [88, 11, 14, 15] (fun i c _ _ wr => ∃ (k : Nat) (z : Int) (M : List Ln), k ≤ T.length ∧ i = .int .i64 k ∧ c = .int .i64 z ∧ Hid (MI x y L1 q.1 q.2.1 T k z M) ∧ MS w b m x y M (61 + k) (w.heap.size + 1) q wr ∧ Sl wr 9 ta T.length 1 (strs T)) (fun i _ _ _ _ => T.length - (intOf i).toNat)
            case atStart => exact ⟨0, _, _, Nat.zero_le _, rfl, rfl, H0, hO5, hT⟩
            case round =>
              obtain ⟨k, z, M, hk, rfl, rfl, hmi, hms, hts⟩ := hrel
              have z0 := hmi.out.c0
              have z1 := hmi.out.cB
              clear H0 hO5 hT
              by_cases hlt : k < T.length
              · obtain ⟨g, rfl, hg, hcells⟩ := hts.cells (by omega)
                have d0 := hcells _ _ (strs_get T k hlt)
                have htz := ten_size HIT.out HI1.out (List.getElem_mem hlt)
                have r0 := (ofL_rng hmi.out.inv T[k]).1
                have r1 := (ofL_rng hmi.out.inv T[k]).2
                have r2 := hmi.out.inv.share1
                have r3 := hmi.out.inv.all1
                have p0 := hms.p0
                have p1 := hms.p1
                have HMS := Lib.hid hms
                have HTS := Lib.hid hts
                clear hcells hms hts
                generalize hof : ofL M T[k] = f at *
                have HOF := Lib.hid hof
                clear hof
                go_wp2_with fail
                refine (of_any HMS.out.book (by unfold maxLen; omega)).mono ?_
                rintro e w9 ⟨rfl, rfl⟩
                rw [HOF.out]
                have hmz : Hid (min z f = min z (ofL M T[k])) := by unfold Hid; rw [HOF.out]
                have m0 : 0 ≤ min z f := by omega
                have m1 : min z f ≤ z := by omega
                by_cases hz : 0 < z
                · have nf := Lib.hid (decide_eq_false (hmi.out.notfit HIQ.out hz))
                  go_wp2_with fail
                  refine (fits_any HMS.out.book (by unfold maxLen; omega)).mono ?_
                  rintro e w11 ⟨rfl, k5, rfl⟩
                  rw [nf.out]
                  have HM2 := Lib.hid (HMS.out.step (chN _ _ k5))
                  have HT2 := Lib.hid (HTS.out.ch (chN _ _ k5) noF)
                  clear HMS HTS
                  go_wp2_with fail
                  obtain ⟨s0, s1, s2⟩ := hmi.out.step (m := min z f) HIT.out.nodup hlt htz hmz.out
                  refine (less_any HM2.out.book (by omega) (by unfold maxLen; omega)).mono ?_
                  rintro e w12 ⟨rfl, B12, c12⟩
                  rw [s1]
                  have HN := Lib.hid (HM2.out.booked B12 c12)
                  have HTN := Lib.hid (HM2.out.ten HT2.out c12)
                  have HS2 := Lib.hid s2
                  clear s0 s1 s2 B12 c12 HM2 HT2
                  go_wp2_with fail
                  go_roundw
                  case rel => exact ⟨k + 1, _, _, by omega, by go_num, by go_num, HS2.out, HN.out, HTN.out⟩
                  case measure => simp [intOf]; omega
                · go_wp2_with fail
                  have HM2 := HMS
                  have HT2 := HTS
                  clear HMS HTS
                  obtain ⟨s0, s1, s2⟩ := hmi.out.step (m := min z f) HIT.out.nodup hlt htz hmz.out
                  refine (less_any HM2.out.book (by omega) (by unfold maxLen; omega)).mono ?_
                  rintro e w12 ⟨rfl, B12, c12⟩
                  rw [s1]
                  have HN := Lib.hid (HM2.out.booked B12 c12)
                  have HTN := Lib.hid (HM2.out.ten HT2.out c12)
                  have HS2 := Lib.hid s2
                  clear s0 s1 s2 B12 c12 HM2 HT2
                  go_wp2_with fail
                  go_roundw
                  case rel => exact ⟨k + 1, _, _, by omega, by go_num, by go_num, HS2.out, HN.out, HTN.out⟩
                  case measure => simp [intOf]; omega
              · obtain rfl : k = T.length := by omega
                obtain ⟨rfl, hadd⟩ := hmi.out.fin HI1.out HIT.out HIQ.out HIV.out
                have p0 := hms.p0
                have p1 := hms.p1
                have HA0 := Lib.hid hadd
                have HMS := Lib.hid hms
                clear hms hts hadd
                go_wp2_with fail
                refine (add_any HMS.out.book (by omega) (by unfold maxLen; omega)).mono ?_
                rintro e w10 ⟨rfl, B10, c10⟩
                rw [HA0.out]
                go_wp2_with fail
                go_ret
                exact ⟨rfl, (HMS.out.booked B10 c10).ch⟩
          · have hf : decide (addE x y L q.1 q.2.1 = 0) = false := by first | (simp [ov.fits]; done) | (simp [ov.fits]; omega)
            have HF := Lib.hid hf
            clear hf
            have p0 := hO.p0
            have p1 := hO.p1
            go_wp2_with fail
            refine (fits_any hO.book (by unfold maxLen; omega)).mono ?_
            rintro e w5 ⟨rfl, k2, rfl⟩
            rw [HF.out]
            have hO2 := hO.step (chN _ _ k2)
            rw [World.drewN_drewN] at hO2
            have p0 := hO2.p0
            have p1 := hO2.p1
            clear hO
            have HO2 := Lib.hid hO2
            clear hO2
            go_wp2_with fail
            refine (less_any HO2.out.book (by omega) (by unfold maxLen; omega)).mono ?_
            rintro e w6 ⟨rfl, B6, c6⟩
            rw [HV.out.less]
            have hO3 := HO2.out.booked B6 c6
            have p0 := hO3.p0
            have p1 := hO3.p1
            have HO3 := Lib.hid hO3
            clear B6 c6 HO2 hO3
            go_wp2_with fail
            refine (fits_any HO3.out.book (by unfold maxLen; omega)).mono ?_
            rintro e w7 ⟨rfl, k3, rfl⟩
            rw [decide_eq_true (HV.out.then_ rfl)]
            have hO4 := HO3.out.step (chN _ _ k3)
            clear HO3
            go_wp2_with fail
            refine (tenants_any hO4.book (by omega)).mono ?_
            rintro e w8 ⟨T, ta, tc, rfl, hT, hI, hTn, c8⟩
            have hO5 := hO4.step c8
            have H0 := Lib.hid (MI.start HV.out HI.out T)
            have HIT := Lib.hid hI
            have HI1 := Lib.hid (HI.out.less q.1 own)
            have HIQ := Lib.hid HV.out.q
            have HIV := Lib.hid HV.out.le
            have hmx := hT.max
            unfold maxLen at hmx
            clear hO4 c8 hI HF HV ov
            generalize lessL L q.1 own = L1 at *
            go_wp2_with fail
            go_loopw [88, 11, 14, 15] (fun i c _ _ wr => ∃ (k : Nat) (z : Int) (M : List Ln), k ≤ T.length ∧ i = .int .i64 k ∧ c = .int .i64 z ∧ Hid (MI x y L1 q.1 q.2.1 T k z M) ∧ MS w b m x y M (61 + k) (w.heap.size + 1) q wr ∧ Sl wr 9 ta T.length 1 (strs T)) (fun i _ _ _ _ => T.length - (intOf i).toNat)
            case atStart => exact ⟨0, _, _, Nat.zero_le _, rfl, rfl, H0, hO5, hT⟩
            case round =>
              obtain ⟨k, z, M, hk, rfl, rfl, hmi, hms, hts⟩ := hrel
              have z0 := hmi.out.c0
              have z1 := hmi.out.cB
              clear H0 hO5 hT
              by_cases hlt : k < T.length
              · obtain ⟨g, rfl, hg, hcells⟩ := hts.cells (by omega)
                have d0 := hcells _ _ (strs_get T k hlt)
                have htz := ten_size HIT.out HI1.out (List.getElem_mem hlt)
                have r0 := (ofL_rng hmi.out.inv T[k]).1
                have r1 := (ofL_rng hmi.out.inv T[k]).2
                have r2 := hmi.out.inv.share1
                have r3 := hmi.out.inv.all1
                have p0 := hms.p0
                have p1 := hms.p1
                have HMS := Lib.hid hms
                have HTS := Lib.hid hts
                clear hcells hms hts
                generalize hof : ofL M T[k] = f at *
                have HOF := Lib.hid hof
                clear hof
                go_wp2_with fail
                refine (of_any HMS.out.book (by unfold maxLen; omega)).mono ?_
                rintro e w9 ⟨rfl, rfl⟩
                rw [HOF.out]
                have hmz : Hid (min z f = min z (ofL M T[k])) := by unfold Hid; rw [HOF.out]
                have m0 : 0 ≤ min z f := by omega
                have m1 : min z f ≤ z := by omega
                by_cases hz : 0 < z
                · have nf := Lib.hid (decide_eq_false (hmi.out.notfit HIQ.out hz))
                  go_wp2_with fail
                  refine (fits_any HMS.out.book (by unfold maxLen; omega)).mono ?_
                  rintro e w11 ⟨rfl, k5, rfl⟩
                  rw [nf.out]
                  have HM2 := Lib.hid (HMS.out.step (chN _ _ k5))
                  have HT2 := Lib.hid (HTS.out.ch (chN _ _ k5) noF)
                  clear HMS HTS
                  go_wp2_with fail
                  obtain ⟨s0, s1, s2⟩ := hmi.out.step (m := min z f) HIT.out.nodup hlt htz hmz.out
                  refine (less_any HM2.out.book (by omega) (by unfold maxLen; omega)).mono ?_
                  rintro e w12 ⟨rfl, B12, c12⟩
                  rw [s1]
                  have HN := Lib.hid (HM2.out.booked B12 c12)
                  have HTN := Lib.hid (HM2.out.ten HT2.out c12)
                  have HS2 := Lib.hid s2
                  clear s0 s1 s2 B12 c12 HM2 HT2
                  go_wp2_with fail
                  go_roundw
                  case rel => exact ⟨k + 1, _, _, by omega, by go_num, by go_num, HS2.out, HN.out, HTN.out⟩
                  case measure => simp [intOf]; omega
                · go_wp2_with fail
                  have HM2 := HMS
                  have HT2 := HTS
                  clear HMS HTS
                  obtain ⟨s0, s1, s2⟩ := hmi.out.step (m := min z f) HIT.out.nodup hlt htz hmz.out
                  refine (less_any HM2.out.book (by omega) (by unfold maxLen; omega)).mono ?_
                  rintro e w12 ⟨rfl, B12, c12⟩
                  rw [s1]
                  have HN := Lib.hid (HM2.out.booked B12 c12)
                  have HTN := Lib.hid (HM2.out.ten HT2.out c12)
                  have HS2 := Lib.hid s2
                  clear s0 s1 s2 B12 c12 HM2 HT2
                  go_wp2_with fail
                  go_roundw
                  case rel => exact ⟨k + 1, _, _, by omega, by go_num, by go_num, HS2.out, HN.out, HTN.out⟩
                  case measure => simp [intOf]; omega
              · obtain rfl : k = T.length := by omega
                obtain ⟨rfl, hadd⟩ := hmi.out.fin HI1.out HIT.out HIQ.out HIV.out
                have p0 := hms.p0
                have p1 := hms.p1
                have HA0 := Lib.hid hadd
                have HMS := Lib.hid hms
                clear hms hts hadd
                go_wp2_with fail
                refine (add_any HMS.out.book (by omega) (by unfold maxLen; omega)).mono ?_
                rintro e w10 ⟨rfl, B10, c10⟩
                rw [HA0.out]
                go_wp2_with fail
                go_ret
                exact ⟨rfl, (HMS.out.booked B10 c10).ch⟩
          · have hf : decide (addE x y L q.1 q.2.1 = 0) = false := by first | (simp [ov.fits]; done) | (simp [ov.fits]; omega)
            have HF := Lib.hid hf
            clear hf
            have p0 := hO.p0
            have p1 := hO.p1
            go_wp2_with fail
            refine (fits_any hO.book (by unfold maxLen; omega)).mono ?_
            rintro e w5 ⟨rfl, k2, rfl⟩
            rw [HF.out]
            have hO2 := hO.step (chN _ _ k2)
            rw [World.drewN_drewN] at hO2
            have p0 := hO2.p0
            have p1 := hO2.p1
            clear hO
            have HO2 := Lib.hid hO2
            clear hO2
            go_wp2_with fail
            refine (less_any HO2.out.book (by omega) (by unfold maxLen; omega)).mono ?_
            rintro e w6 ⟨rfl, B6, c6⟩
            rw [HV.out.less]
            have hO3 := HO2.out.booked B6 c6
            have p0 := hO3.p0
            have p1 := hO3.p1
            have HO3 := Lib.hid hO3
            clear B6 c6 HO2 hO3
            go_wp2_with fail
            have hO4 := HO3.out
            clear HO3
            refine (tenants_any hO4.book (by omega)).mono ?_
            rintro e w8 ⟨T, ta, tc, rfl, hT, hI, hTn, c8⟩
            have hO5 := hO4.step c8
            have H0 := Lib.hid (MI.start HV.out HI.out T)
            have HIT := Lib.hid hI
            have HI1 := Lib.hid (HI.out.less q.1 own)
            have HIQ := Lib.hid HV.out.q
            have HIV := Lib.hid HV.out.le
            have hmx := hT.max
            unfold maxLen at hmx
            clear hO4 c8 hI HF HV ov
            generalize lessL L q.1 own = L1 at *
            go_wp2_with fail
            go_loopw [88, 11, 14, 15] (fun i c _ _ wr => ∃ (k : Nat) (z : Int) (M : List Ln), k ≤ T.length ∧ i = .int .i64 k ∧ c = .int .i64 z ∧ Hid (MI x y L1 q.1 q.2.1 T k z M) ∧ MS w b m x y M (61 + k) (w.heap.size + 1) q wr ∧ Sl wr 9 ta T.length 1 (strs T)) (fun i _ _ _ _ => T.length - (intOf i).toNat)
            case atStart => exact ⟨0, _, _, Nat.zero_le _, rfl, rfl, H0, hO5, hT⟩
            case round =>
              obtain ⟨k, z, M, hk, rfl, rfl, hmi, hms, hts⟩ := hrel
              have z0 := hmi.out.c0
              have z1 := hmi.out.cB
              clear H0 hO5 hT
              by_cases hlt : k < T.length
              · obtain ⟨g, rfl, hg, hcells⟩ := hts.cells (by omega)
                have d0 := hcells _ _ (strs_get T k hlt)
                have htz := ten_size HIT.out HI1.out (List.getElem_mem hlt)
                have r0 := (ofL_rng hmi.out.inv T[k]).1
                have r1 := (ofL_rng hmi.out.inv T[k]).2
                have r2 := hmi.out.inv.share1
                have r3 := hmi.out.inv.all1
                have p0 := hms.p0
                have p1 := hms.p1
                have HMS := Lib.hid hms
                have HTS := Lib.hid hts
                clear hcells hms hts
                generalize hof : ofL M T[k] = f at *
                have HOF := Lib.hid hof
                clear hof
                go_wp2_with fail
                refine (of_any HMS.out.book (by unfold maxLen; omega)).mono ?_
                rintro e w9 ⟨rfl, rfl⟩
                rw [HOF.out]
                have hmz : Hid (min z f = min z (ofL M T[k])) := by unfold Hid; rw [HOF.out]
                have m0 : 0 ≤ min z f := by omega
                have m1 : min z f ≤ z := by omega
                by_cases hz : 0 < z
                · have nf := Lib.hid (decide_eq_false (hmi.out.notfit HIQ.out hz))
                  go_wp2_with fail
                  refine (fits_any HMS.out.book (by unfold maxLen; omega)).mono ?_
                  rintro e w11 ⟨rfl, k5, rfl⟩
                  rw [nf.out]
                  have HM2 := Lib.hid (HMS.out.step (chN _ _ k5))
                  have HT2 := Lib.hid (HTS.out.ch (chN _ _ k5) noF)
                  clear HMS HTS
                  go_wp2_with fail
                  obtain ⟨s0, s1, s2⟩ := hmi.out.step (m := min z f) HIT.out.nodup hlt htz hmz.out
                  refine (less_any HM2.out.book (by omega) (by unfold maxLen; omega)).mono ?_
                  rintro e w12 ⟨rfl, B12, c12⟩
                  rw [s1]
                  have HN := Lib.hid (HM2.out.booked B12 c12)
                  have HTN := Lib.hid (HM2.out.ten HT2.out c12)
                  have HS2 := Lib.hid s2
                  clear s0 s1 s2 B12 c12 HM2 HT2
                  go_wp2_with fail
                  go_roundw
                  case rel => exact ⟨k + 1, _, _, by omega, by go_num, by go_num, HS2.out, HN.out, HTN.out⟩
                  case measure => simp [intOf]; omega
                · go_wp2_with fail
                  have HM2 := HMS
                  have HT2 := HTS
                  clear HMS HTS
                  obtain ⟨s0, s1, s2⟩ := hmi.out.step (m := min z f) HIT.out.nodup hlt htz hmz.out
                  refine (less_any HM2.out.book (by omega) (by unfold maxLen; omega)).mono ?_
                  rintro e w12 ⟨rfl, B12, c12⟩
                  rw [s1]
                  have HN := Lib.hid (HM2.out.booked B12 c12)
                  have HTN := Lib.hid (HM2.out.ten HT2.out c12)
                  have HS2 := Lib.hid s2
                  clear s0 s1 s2 B12 c12 HM2 HT2
                  go_wp2_with fail
                  go_roundw
                  case rel => exact ⟨k + 1, _, _, by omega, by go_num, by go_num, HS2.out, HN.out, HTN.out⟩
                  case measure => simp [intOf]; omega
              · obtain rfl : k = T.length := by omega
                obtain ⟨rfl, hadd⟩ := hmi.out.fin HI1.out HIT.out HIQ.out HIV.out
                have p0 := hms.p0
                have p1 := hms.p1
                have HA0 := Lib.hid hadd
                have HMS := Lib.hid hms
                clear hms hts hadd
                go_wp2_with fail
                refine (add_any HMS.out.book (by omega) (by unfold maxLen; omega)).mono ?_
                rintro e w10 ⟨rfl, B10, c10⟩
                rw [HA0.out]
                go_wp2_with fail
                go_ret
                exact ⟨rfl, (HMS.out.booked B10 c10).ch⟩
        · generalize overR x y L q.1 q.2.1 = r at *
          have he' : (r.2.2 == 0) = false := by simpa using he
          go_wp2_with fail
          go_ret
          exact ⟨rfl, hO.ch⟩
      · have HP := fun W v => Lib.hid (play_no (v := v) (w := W) hg)
        clear hg
        go_enter Try.func3, Try.ntmps3
        go_wp2_with fail
        refine (wakes_any _).mono ?_
        rintro e w1 ⟨rfl, c1⟩
        go_wp2_with fail
        refine (small_any ((HA.out.ch HC0).ch c1)).mono ?_
        rintro e w2 ⟨rfl, c2⟩
        have c12 := c1.trans c2 (fun _ h _ => h)
        have HC := Lib.hid (HC0.trans c12 (fun _ h _ => h))
        have o := c12.obj (obj_alloc (o' := .cells #[.string q.1, .int .i64 q.2.1, .bool q.2.2] 26) (obj_new w (.cells #[.int .i64 x, .int .i64 y] 23))) (fun h => h)
        have o2 := c12.obj (obj_new (w.alloc (.cells #[.int .i64 x, .int .i64 y] 23)) (.cells #[.string q.1, .int .i64 q.2.1, .bool q.2.2] 26)) (fun h => h)
        rw [show (w.alloc (.cells #[.int .i64 x, .int .i64 y] 23)).heap.size = w.heap.size + 1 by simp] at o2
        have x0 := cell_of (off := 0) (v := .int .i64 x) o rfl
        have x1 := cell_of (off := 1) (v := .int .i64 y) o rfl
        have p0 := cell_of (off := 0) (v := .string q.1) o2 rfl
        clear c1 c2 c12 o o2 HC0
        go_wp2_with fail
        refine (HP _ _).out.mono ?_
        rintro e w3 ⟨u, rfl, ⟨a', cap', rfl⟩, c3⟩
        go_wp2_with fail
        go_ret
        exact ⟨rfl, (HC.out.trans c3 (fun _ h _ => h)).alloc _⟩
    · go_enter Try.func3, Try.ntmps3
      go_wp2_with fail
      refine (wakes_any _).mono ?_
      rintro e w1 ⟨rfl, c1⟩
      go_wp2_with fail
      refine (small_any ((HA.out.ch HC0).ch c1)).mono ?_
      rintro e w2 ⟨rfl, c2⟩
      have c12 := c1.trans c2 (fun _ h _ => h)
      have HC := Lib.hid (HC0.trans c12 (fun _ h _ => h))
      have o2 := c12.obj (obj_new (w.alloc (.cells #[.int .i64 x, .int .i64 y] 23)) (.cells #[.string q.1, .int .i64 q.2.1, .bool q.2.2] 26)) (fun h => h)
      rw [show (w.alloc (.cells #[.int .i64 x, .int .i64 y] 23)).heap.size = w.heap.size + 1 by simp] at o2
      have p0 := cell_of (off := 0) (v := .string q.1) o2 rfl
      clear c1 c2 c12 o2 HC0
      go_wp2_with fail
      go_ret
      exact ⟨rfl, HC.out⟩
  · have hs' : smallA A = false := by simpa using hs
    clear hs
    go_enter Try.func3, Try.ntmps3
    go_wp2_with fail
    refine (wakes_any _).mono ?_
    rintro e w1 ⟨rfl, c1⟩
    go_wp2_with fail
    refine (small_any ((HA.out.ch HC0).ch c1)).mono ?_
    rintro e w2 ⟨rfl, c2⟩
    go_wp2_with fail
    go_ret
    exact ⟨rfl, (HC0.trans c1 (fun _ h _ => h)).trans c2 (fun _ h _ => h)⟩
end Go.Proofs.Yteadclkpoikobaa
