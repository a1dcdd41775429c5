/- Of which bytes a decision is told: what the statement FenceApart walks to. Conditions: the state and the table of texts lie in memory. -/
import Derived.Test.YtbgojgoejlhgeaaDoorPre
import Derived.Test.YtbgojgoejlhgeaaDoorG3b
namespace Go.Proofs.YtbgojgoejlhgeaaDoor.Pr
open Go.RowKit Go.Proofs.YtbgojgoejlhgeaaDoorW.PrintWords
/-- the document's state in the block g, the program's in the block g2 -/
structure XB (w0 : World) (g g2 : Nat) (s : St) (x : Sx) (o : St) (y : Sx) (W : World) : Prop where
  bel : Below w0.heap.size w0 W
  sblk : W.heap[g]? = some (.cells (cellsS s x) 24 (0, 0))
  oblk : W.heap[g2]? = some (.cells (cellsS o y) 31 (0, 0))
  ms : MS W o y
theorem XB.call {w0 W W' : World} {g g2 : Nat} {s o : St} {x y : Sx} (h : XB w0 g g2 s x o y W) (hb : Below W.heap.size W W') : XB w0 g g2 s x o y W' :=
  ⟨h.bel.trans (hb.mono h.bel.size), blk_of h.sblk hb, blk_of h.oblk hb, h.ms.below hb⟩
theorem cells8o {w : World} {g : Nat} {s : St} {x : Sx} (h : w.heap[g]? = some (.cells (cellsS s x) 31 (0, 0))) :
    w.cell? ⟨g, 0, none⟩ = some (.bool s.head) ∧ w.cell? ⟨g, 1, none⟩ = some (.slice x.A1 s.R.length x.c1) ∧ w.cell? ⟨g, 2, none⟩ = some (.slice x.A2 s.H.length x.c2) ∧ w.cell? ⟨g, 3, none⟩ = some (.slice x.A3 s.F.length x.c3) ∧ w.cell? ⟨g, 4, none⟩ = some (.bool s.turned) ∧ w.cell? ⟨g, 5, none⟩ = some (.bool s.failed) ∧ w.cell? ⟨g, 6, none⟩ = some (.int .i64 s.again) ∧ w.cell? ⟨g, 7, none⟩ = some (.bool s.joins) :=
  ⟨cellO h rfl, cellO h rfl, cellO h rfl, cellO h rfl, cellO h rfl, cellO h rfl, cellO h rfl, cellO h rfl⟩
theorem first_c {w : World} {l : List S42} {A : Option Addr} {c : Nat} (h : Kd.C k42 w A l.length l) (hc : l.length ≤ c) (n : Norm l) (hl : l.length < 8796093022208) (a b : Int) (ok : Bool) (he : ranges_Set_First.f l 0 = some (a, b, ok)) :
    Calls Tryd.prog 23 #[.agg #[.slice A l.length c], .int .i64 0] w fun e w' => e = .returned (.tuple #[.agg #[.int .i64 a, .int .i64 b], .bool ok]) ∧ Below w.heap.size w w' :=
  ranges_Set_First.calls _ _ _ _ _ _ _ w h hc he
theorem lost_len {L : List S42} (n : Norm L) (h : L ≠ []) : ((lenL L) != 0) = true := by
  simp only [bne_iff_ne, ne_eq]
  exact fun e => h ((lenL_zero n).1 e)
set_option maxRecDepth 100000 in
theorem fenceApart_few {W : World} {s : St} {x : Sx} (hg : GT W) (h : MS W s x) (hf : Few s) : Calls Tryd.prog 7 #[stV s x] W fun e w' => e = .returned (.bool true) ∧ Below W.heap.size W w' := by
  have HG := Lib.hid hg
  have HA := Lib.hid (AW.box h)
  have HF := Lib.hid hf
  have hgr : decide (¬ Few s) = false := decide_eq_false (fun hn => hn hf)
  clear hg h hf
  go_enter Tryd.func7, Tryd.ntmps7
  go_upto_region 1 with fail
  show Code.wp _ _ _ _ (W.alloc (.cells (cellsS s x) 24))
  generalize (W.alloc (.cells (cellsS s x) 24)) = w1 at HA ⊢
  generalize W.heap.size = g at HA ⊢
  go_wp2_with fail
  refine (awake11 (HG.out.below HA.out.bel)).mono ?_
  rintro e w2 ⟨rfl, b2⟩
  have HS := Lib.hid (HA.out.call b2)
  clear HA b2
  obtain ⟨q0, q1, q2, q3, q4, q5, q6, q7⟩ := cells8 HS.out.blk
  go_wp2_with fail
  refine (great_n HS.out.ms).mono ?_
  rintro e w3 ⟨rfl, b3⟩
  rw [hgr]
  have HS3 := Lib.hid (HS.out.call b3)
  clear HS b3 q0 q1 q2 q3 q4 q5 q6 q7 hgr
  obtain ⟨q0, q1, q2, q3, q4, q5, q6, q7⟩ := cells8 HS3.out.blk
  go_wp2_with fail
  refine (own_few HS3.out.ms HF.out).mono ?_
  rintro e w4 ⟨x4, rfl, m4, b4⟩
  have HS4 := Lib.hid (HS3.out.call b4)
  have HM4 := Lib.hid m4
  clear HS3 b4 m4 q0 q1 q2 q3 q4 q5 q6 q7
  go_upto_region 4 with fail
  have ba := (Below.refl _ w4).alloc (Nat.le_refl _) (.cells (cellsS (ofS s) x4) 31)
  have HX := Lib.hid (show XB W g w4.heap.size s x (ofS s) x4 (w4.alloc (.cells (cellsS (ofS s) x4) 31)) from
    ⟨(HS4.out.call ba).bel, (HS4.out.call ba).blk, new_obj w4 _, HM4.out.below ba⟩)
  clear HS4 HM4 ba
  show Code.wp _ _ _ _ (w4.alloc (.cells (cellsS (ofS s) x4) 31))
  generalize (w4.alloc (.cells (cellsS (ofS s) x4) 31)) = w5 at HX ⊢
  generalize w4.heap.size = g2 at HX ⊢
  have HN := Lib.hid (few_norm HF.out)
  have hh : s.head = (ofS s).head := rfl
  have hag : s.again = (ofS s).again := rfl
  generalize ofS s = o at HX HN hh hag ⊢
  have HK : Hid (o.R.length < 8796093022208 ∧ o.H.length < 8796093022208 ∧ o.F.length < 8796093022208) := ⟨by have := HN.out.lr; omega, by have := HN.out.lh; omega, by have := HN.out.lf; omega⟩
  obtain ⟨q0, q1, q2, q3, q4, q5, q6, q7⟩ := cells8o HX.out.oblk
  go_wp2_with fail
  refine (decide_c HX.out.ms (HN.out.mono (by omega))).mono ?_
  rintro e w6 ⟨rfl, b6⟩
  have HX6 := Lib.hid (HX.out.call b6)
  clear HX b6 q0 q1 q2 q3 q4 q5 q6 q7
  obtain ⟨q0, q1, q2, q3, q4, q5, q6, q7⟩ := cells8o HX6.out.oblk
  cases hR : o.R with
  | nil =>
    have hd : decS o = 6 := by unfold decS; rw [hR]
    rw [hd]
    have HE := Lib.hid (show ranges_Set_First.f o.R 0 = some (0, 0, false) by rw [hR]; exact first_nil)
    clear hd hR
    go_wp2_with fail
    refine (first_c HX6.out.ms.r1 HX6.out.ms.l1 HN.out.r HK.out.1 _ _ _ HE.out).mono ?_
    rintro e w7 ⟨rfl, b7⟩
    have HX7 := Lib.hid (HX6.out.call b7)
    clear HX6 b7 q0 q1 q2 q3 q4 q5 q6 q7
    go_wp2_with fail
    go_ret
    exact ⟨rfl, HX7.out.bel.alloc HX7.out.bel.size _⟩
  | cons z l =>
    have HE := Lib.hid (show ranges_Set_First.f o.R 0 = some (z.f0, z.f1, true) by have := HK.out.1; rw [hR] at this ⊢; exact first_f (hR ▸ HN.out.r) this)
    have hdec : decS o = if lostS o ≠ [] ∧ o.head = false then (if o.again > 0 then 4 else 5) else if memS o.H z.f0 then 1 else if memS o.F z.f0 then 2 else if lostS o ≠ [] then 5 else 3 := by unfold decS; rw [hR]
    have hwant : memS (wantS o) z.f0 ↔ ¬ memS o.H z.f0 ∧ ¬ memS o.F z.f0 := by
      rw [(want_norm HN.out).2.1]
      exact ⟨fun h => h.2, fun h => ⟨by rw [hR]; exact (hR ▸ HN.out.r : Norm (z :: l)).mem_head, h⟩⟩
    have HD := Lib.hid hdec
    have HWn := Lib.hid hwant
    clear hdec hwant hR
    generalize decS o = d at HD ⊢
    go_wp2_with fail
    refine (first_c HX6.out.ms.r1 HX6.out.ms.l1 HN.out.r HK.out.1 _ _ _ HE.out).mono ?_
    rintro e w7 ⟨rfl, b7⟩
    have HX7 := Lib.hid (HX6.out.call b7)
    clear HX6 b7 q0 q1 q2 q3 q4 q5 q6 q7
    go_upto_region 9 with fail
    have HX := Lib.hid (HX7.out.call ((Below.refl _ w7).alloc (Nat.le_refl _) (.cells #[.int .i64 z.f0, .int .i64 z.f1] 42)))
    clear HX7
    generalize w7.alloc (.cells #[.int .i64 z.f0, .int .i64 z.f1] 42) = w8 at HX ⊢
    have HLn : Hid (Norm (lostS o) ∧ (lostS o).length < 8796093022208) := ⟨(lost_norm HN.out).1, by have := (lost_norm HN.out).2; omega⟩
    by_cases hA : lostS o ≠ [] ∧ o.head = false
    · have hLL : ((lenL (lostS o)) != 0) = true := lost_len HLn.out.1 hA.1
      by_cases hB : o.again > 0
      · obtain rfl : d = 4 := by rw [HD.out, if_pos hA, if_pos hB]
        have hsh : s.head = false := hh.trans hA.2
        have hsa : s.again > 0 := by rw [hag]; exact hB
        clear HD HWn hA hB hh hag HE
        obtain ⟨q0, q1, q2, q3, q4, q5, q6, q7⟩ := cells8o HX.out.oblk
        obtain ⟨p0, p1, p2, p3, p4, p5, p6, p7⟩ := cells8 HX.out.sblk
        go_wp2_with fail
        clear q0 q1 q2 q3 q4 q5 q6 q7 p0 p1 p2 p3 p4 p5 p6 p7
        refine (lost_c HX.out.ms (HN.out.mono (by omega))).mono ?_
        rintro e y ⟨A, c, rfl, r, lc, b⟩
        have HR := Lib.hid r
        have HXn := Lib.hid (HX.out.call b)
        clear HX b
        have HX := HXn
        clear HXn
        clear r
        go_wp2_with fail
        refine (len_c HR.out lc HLn.out.1 HLn.out.2).mono ?_
        rintro e y ⟨rfl, b⟩
        generalize lenL (lostS o) = n at hLL ⊢
        have HXn := Lib.hid (HX.out.call b)
        clear HX b
        have HX := HXn
        clear HXn
        clear HR
        obtain ⟨q0, q1, q2, q3, q4, q5, q6, q7⟩ := cells8o HX.out.oblk
        obtain ⟨p0, p1, p2, p3, p4, p5, p6, p7⟩ := cells8 HX.out.sblk
        rw [hsh] at p0
        go_wp2_with fail
        go_ret
        exact ⟨rfl, HX.out.bel⟩
      · obtain rfl : d = 5 := by rw [HD.out, if_pos hA, if_neg hB]
        have hsh : s.head = false := hh.trans hA.2
        have hsa : s.again ≤ 0 := by rw [hag]; omega
        clear HD HWn hA hB hh hag HE
        obtain ⟨q0, q1, q2, q3, q4, q5, q6, q7⟩ := cells8o HX.out.oblk
        obtain ⟨p0, p1, p2, p3, p4, p5, p6, p7⟩ := cells8 HX.out.sblk
        go_wp2_with fail
        clear q0 q1 q2 q3 q4 q5 q6 q7 p0 p1 p2 p3 p4 p5 p6 p7
        refine (lost_c HX.out.ms (HN.out.mono (by omega))).mono ?_
        rintro e y ⟨A, c, rfl, r, lc, b⟩
        have HR := Lib.hid r
        have HXn := Lib.hid (HX.out.call b)
        clear HX b
        have HX := HXn
        clear HXn
        clear r
        go_wp2_with fail
        refine (len_c HR.out lc HLn.out.1 HLn.out.2).mono ?_
        rintro e y ⟨rfl, b⟩
        generalize lenL (lostS o) = n at hLL ⊢
        have HXn := Lib.hid (HX.out.call b)
        clear HX b
        have HX := HXn
        clear HXn
        clear HR
        obtain ⟨q0, q1, q2, q3, q4, q5, q6, q7⟩ := cells8o HX.out.oblk
        obtain ⟨p0, p1, p2, p3, p4, p5, p6, p7⟩ := cells8 HX.out.sblk
        rw [hsh] at p0
        go_wp2_with fail
        go_ret
        exact ⟨rfl, HX.out.bel⟩
    · by_cases hB : memS o.H z.f0
      · obtain rfl : d = 1 := by rw [HD.out, if_neg hA, if_pos hB]
        clear HD HWn hA hh hag HE
        obtain ⟨q0, q1, q2, q3, q4, q5, q6, q7⟩ := cells8o HX.out.oblk
        obtain ⟨p0, p1, p2, p3, p4, p5, p6, p7⟩ := cells8 HX.out.sblk
        go_wp2_with fail
        clear q0 q1 q2 q3 q4 q5 q6 q7 p0 p1 p2 p3 p4 p5 p6 p7
        refine (has_c HX.out.ms.r2 HX.out.ms.l2 HN.out.h HK.out.2.1 _).mono ?_
        rintro e y ⟨rfl, b⟩
        rw [decide_eq_true hB]
        have HXn := Lib.hid (HX.out.call b)
        clear HX b
        have HX := HXn
        clear HXn
        go_wp2_with fail
        go_ret
        exact ⟨rfl, HX.out.bel⟩
      · by_cases hC : memS o.F z.f0
        · obtain rfl : d = 2 := by rw [HD.out, if_neg hA, if_neg hB, if_pos hC]
          clear HD HWn hA hh hag HE
          obtain ⟨q0, q1, q2, q3, q4, q5, q6, q7⟩ := cells8o HX.out.oblk
          obtain ⟨p0, p1, p2, p3, p4, p5, p6, p7⟩ := cells8 HX.out.sblk
          go_wp2_with fail
          clear q0 q1 q2 q3 q4 q5 q6 q7 p0 p1 p2 p3 p4 p5 p6 p7
          refine (has_c HX.out.ms.r3 HX.out.ms.l3 HN.out.f HK.out.2.2 _).mono ?_
          rintro e y ⟨rfl, b⟩
          rw [decide_eq_true hC]
          have HXn := Lib.hid (HX.out.call b)
          clear HX b
          have HX := HXn
          clear HXn
          obtain ⟨q0, q1, q2, q3, q4, q5, q6, q7⟩ := cells8o HX.out.oblk
          obtain ⟨p0, p1, p2, p3, p4, p5, p6, p7⟩ := cells8 HX.out.sblk
          go_wp2_with fail
          clear q0 q1 q2 q3 q4 q5 q6 q7 p0 p1 p2 p3 p4 p5 p6 p7
          refine (has_c HX.out.ms.r2 HX.out.ms.l2 HN.out.h HK.out.2.1 _).mono ?_
          rintro e y ⟨rfl, b⟩
          rw [decide_eq_false hB]
          have HXn := Lib.hid (HX.out.call b)
          clear HX b
          have HX := HXn
          clear HXn
          go_wp2_with fail
          go_ret
          exact ⟨rfl, HX.out.bel⟩
        · by_cases hl : lostS o = []
          · obtain rfl : d = 3 := by rw [HD.out, if_neg hA, if_neg hB, if_neg hC, if_neg (fun h => h hl)]
            clear HD HWn hA hh hag HE
            obtain ⟨q0, q1, q2, q3, q4, q5, q6, q7⟩ := cells8o HX.out.oblk
            obtain ⟨p0, p1, p2, p3, p4, p5, p6, p7⟩ := cells8 HX.out.sblk
            go_wp2_with fail
            clear q0 q1 q2 q3 q4 q5 q6 q7 p0 p1 p2 p3 p4 p5 p6 p7
            refine (has_c HX.out.ms.r2 HX.out.ms.l2 HN.out.h HK.out.2.1 _).mono ?_
            rintro e y ⟨rfl, b⟩
            rw [decide_eq_false hB]
            have HXn := Lib.hid (HX.out.call b)
            clear HX b
            have HX := HXn
            clear HXn
            obtain ⟨q0, q1, q2, q3, q4, q5, q6, q7⟩ := cells8o HX.out.oblk
            obtain ⟨p0, p1, p2, p3, p4, p5, p6, p7⟩ := cells8 HX.out.sblk
            go_wp2_with fail
            clear q0 q1 q2 q3 q4 q5 q6 q7 p0 p1 p2 p3 p4 p5 p6 p7
            refine (has_c HX.out.ms.r3 HX.out.ms.l3 HN.out.f HK.out.2.2 _).mono ?_
            rintro e y ⟨rfl, b⟩
            rw [decide_eq_false hC]
            have HXn := Lib.hid (HX.out.call b)
            clear HX b
            have HX := HXn
            clear HXn
            obtain ⟨q0, q1, q2, q3, q4, q5, q6, q7⟩ := cells8o HX.out.oblk
            obtain ⟨p0, p1, p2, p3, p4, p5, p6, p7⟩ := cells8 HX.out.sblk
            go_wp2_with fail
            clear q0 q1 q2 q3 q4 q5 q6 q7 p0 p1 p2 p3 p4 p5 p6 p7
            refine (lost_c HX.out.ms (HN.out.mono (by omega))).mono ?_
            rw [hl]
            rintro e y ⟨A, c, rfl, r, lc, b⟩
            have HR := Lib.hid r
            have HXn := Lib.hid (HX.out.call b)
            clear HX b
            have HX := HXn
            clear HXn
            clear r
            go_wp2_with fail
            refine (len_c HR.out (Nat.zero_le _) Norm.nil (by decide)).mono ?_
            rintro e y ⟨rfl, b⟩
            rw [show lenL [] = 0 from rfl]
            have HXn := Lib.hid (HX.out.call b)
            clear HX b
            have HX := HXn
            clear HXn
            clear HR
            go_wp2_with fail
            go_ret
            exact ⟨rfl, HX.out.bel⟩
          · obtain rfl : d = 5 := by rw [HD.out, if_neg hA, if_neg hB, if_neg hC, if_pos hl]
            have hLL : ((lenL (lostS o)) != 0) = true := lost_len HLn.out.1 hl
            have hsh : s.head = true := by rw [hh]; cases hc : o.head with | true => rfl | false => exact absurd ⟨hl, hc⟩ hA
            have hm : memS (lostS o) z.f0 := by have hw := HWn.out.2 ⟨hB, hC⟩; unfold lostS at hl ⊢; split at hl; rename_i h; rw [if_pos h]; exact hw; exact absurd rfl hl
            clear HD HWn hA hB hC hl hh hag HE
            obtain ⟨q0, q1, q2, q3, q4, q5, q6, q7⟩ := cells8o HX.out.oblk
            obtain ⟨p0, p1, p2, p3, p4, p5, p6, p7⟩ := cells8 HX.out.sblk
            go_wp2_with fail
            clear q0 q1 q2 q3 q4 q5 q6 q7 p0 p1 p2 p3 p4 p5 p6 p7
            refine (lost_c HX.out.ms (HN.out.mono (by omega))).mono ?_
            rintro e y ⟨A, c, rfl, r, lc, b⟩
            have HR := Lib.hid r
            have HXn := Lib.hid (HX.out.call b)
            clear HX b
            have HX := HXn
            clear HXn
            clear r
            go_wp2_with fail
            refine (len_c HR.out lc HLn.out.1 HLn.out.2).mono ?_
            rintro e y ⟨rfl, b⟩
            generalize lenL (lostS o) = n at hLL ⊢
            have HXn := Lib.hid (HX.out.call b)
            clear HX b
            have HX := HXn
            clear HXn
            clear HR
            obtain ⟨q0, q1, q2, q3, q4, q5, q6, q7⟩ := cells8o HX.out.oblk
            obtain ⟨p0, p1, p2, p3, p4, p5, p6, p7⟩ := cells8 HX.out.sblk
            rw [hsh] at p0
            go_wp2_with fail
            clear q0 q1 q2 q3 q4 q5 q6 q7 p0 p1 p2 p3 p4 p5 p6 p7
            refine (lost_c HX.out.ms (HN.out.mono (by omega))).mono ?_
            rintro e y ⟨A', c', rfl, r, lc', b⟩
            have HR := Lib.hid r
            have HXn := Lib.hid (HX.out.call b)
            clear HX b
            have HX := HXn
            clear HXn
            clear r
            go_wp2_with fail
            refine (has_c HR.out lc' HLn.out.1 HLn.out.2 _).mono ?_
            rintro e y ⟨rfl, b⟩
            rw [decide_eq_true hm]
            have HXn := Lib.hid (HX.out.call b)
            clear HX b
            have HX := HXn
            clear HXn
            go_wp2_with fail
            go_ret
            exact ⟨rfl, HX.out.bel⟩
set_option maxRecDepth 100000 in
theorem fenceApart_many {W : World} {s : St} {x : Sx} (hg : GT W) (h : MS W s x) (hf : ¬ Few s) : Calls Tryd.prog 7 #[stV s x] W fun e w' => e = .returned (.bool true) ∧ Below W.heap.size W w' := by
  have HG := Lib.hid hg
  have HA := Lib.hid (AW.box h)
  have hgr : decide (¬ Few s) = true := decide_eq_true hf
  clear hg h hf
  go_enter Tryd.func7, Tryd.ntmps7
  go_upto_region 1 with fail
  show Code.wp _ _ _ _ (W.alloc (.cells (cellsS s x) 24))
  generalize (W.alloc (.cells (cellsS s x) 24)) = w1 at HA ⊢
  generalize W.heap.size = g at HA ⊢
  go_wp2_with fail
  refine (awake11 (HG.out.below HA.out.bel)).mono ?_
  rintro e w2 ⟨rfl, b2⟩
  have HS := Lib.hid (HA.out.call b2)
  clear HA b2
  obtain ⟨q0, q1, q2, q3, q4, q5, q6, q7⟩ := cells8 HS.out.blk
  go_wp2_with fail
  refine (great_n HS.out.ms).mono ?_
  rintro e w3 ⟨rfl, b3⟩
  rw [hgr]
  have HS3 := Lib.hid (HS.out.call b3)
  clear HS b3 q0 q1 q2 q3 q4 q5 q6 q7 hgr
  go_wp2_with fail
  refine (awake11 (HG.out.below HS3.out.bel)).mono ?_
  rintro e w4 ⟨rfl, b4⟩
  have HS4 := Lib.hid (HS3.out.call b4)
  clear HS3 b4
  go_wp2_with fail
  go_ret
  exact ⟨rfl, HS4.out.bel⟩
theorem fenceApart_walk {W : World} {s : St} {x : Sx} (hg : GT W) (h : MS W s x) : Calls Tryd.prog 7 #[stV s x] W fun e w' => e = .returned (.bool true) ∧ Below W.heap.size W w' := by
  by_cases hf : Few s
  · exact fenceApart_few hg h hf
  · exact fenceApart_many hg h hf
end Go.Proofs.YtbgojgoejlhgeaaDoor.Pr
