/- With more kept, or flying, no more is lost: what the statement FenceGoes walks to. Conditions: the state, the spans and the table of texts lie in memory. -/
import Derived.Test.YtbgojgoejlhgeaaDoorPG
import Derived.Test.YtbgojgoejlhgeaaDoorXb
namespace Go.Proofs.YtbgojgoejlhgeaaDoor.Pr
open Go.RowKit Go.Proofs.YtbgojgoejlhgeaaDoorW.PrintWords
theorem bel_call2 {w W W' : World} (h : Below w.heap.size w W) (hb : Below W.heap.size W W') : Below w.heap.size w W' := h.trans (hb.mono h.size)
theorem reg88 {w X : World} {g2 g3 : Nat} {o p : St} {x4 y : Sx} (h : w.heap[g2]? = some (.cells (cellsS o x4) 31 (0, 0))) (h' : w.heap[g3]? = some (.cells (cellsS p y) 31 (0, 0))) (b : Below w.heap.size w X) : Below w.heap.size w X ∧ X.cell? ⟨g2, 0, none⟩ = some (.bool o.head) ∧ X.cell? ⟨g2, 1, none⟩ = some (.slice x4.A1 o.R.length x4.c1) ∧ X.cell? ⟨g2, 2, none⟩ = some (.slice x4.A2 o.H.length x4.c2) ∧ X.cell? ⟨g2, 3, none⟩ = some (.slice x4.A3 o.F.length x4.c3) ∧ X.cell? ⟨g2, 4, none⟩ = some (.bool o.turned) ∧ X.cell? ⟨g2, 5, none⟩ = some (.bool o.failed) ∧ X.cell? ⟨g2, 6, none⟩ = some (.int .i64 o.again) ∧ X.cell? ⟨g2, 7, none⟩ = some (.bool o.joins) ∧ X.cell? ⟨g3, 0, none⟩ = some (.bool p.head) ∧ X.cell? ⟨g3, 1, none⟩ = some (.slice y.A1 p.R.length y.c1) ∧ X.cell? ⟨g3, 2, none⟩ = some (.slice y.A2 p.H.length y.c2) ∧ X.cell? ⟨g3, 3, none⟩ = some (.slice y.A3 p.F.length y.c3) ∧ X.cell? ⟨g3, 4, none⟩ = some (.bool p.turned) ∧ X.cell? ⟨g3, 5, none⟩ = some (.bool p.failed) ∧ X.cell? ⟨g3, 6, none⟩ = some (.int .i64 p.again) ∧ X.cell? ⟨g3, 7, none⟩ = some (.bool p.joins) :=
  ⟨b, cellO (blk_of h b) rfl, cellO (blk_of h b) rfl, cellO (blk_of h b) rfl, cellO (blk_of h b) rfl, cellO (blk_of h b) rfl, cellO (blk_of h b) rfl, cellO (blk_of h b) rfl, cellO (blk_of h b) rfl, cellO (blk_of h' b) rfl, cellO (blk_of h' b) rfl, cellO (blk_of h' b) rfl, cellO (blk_of h' b) rfl, cellO (blk_of h' b) rfl, cellO (blk_of h' b) rfl, cellO (blk_of h' b) rfl, cellO (blk_of h' b) rfl⟩
set_option maxHeartbeats 1000000 in
set_option maxRecDepth 100000 in
theorem fenceGoes_few_true {W : World} {s : St} {x : Sx} {A : Option Addr} {c : Nat} {l : List S42} (hg : GT W) (h : MS W s x) (hl : Kd.C k42 W A l.length l) (hlc : l.length ≤ c) (hf : Few s) (h5 : l.length ≤ 5) : Calls Tryd.prog 9 #[stV s x, .slice A l.length c, .bool true] W fun e w' => e = .returned (.bool true) ∧ Below W.heap.size W w' := by
  have HG := Lib.hid hg
  have HA := Lib.hid (AW.box h)
  have HK := Lib.hid (Kd.C_below hl ((Below.refl _ W).alloc (Nat.le_refl _) (.cells (cellsS s x) 24)))
  have HF := Lib.hid hf
  have HL5 := Lib.hid h5
  have hgr : decide (¬ Few s) = false := decide_eq_false (fun hn => hn hf)
  have hn5 : ¬ ((l.length : Int) > 5) := by omega
  clear hg h hf hl h5
  go_enter Tryd.func9, Tryd.ntmps9
  go_upto_region 1 with fail
  show Code.wp _ _ _ _ (W.alloc (.cells (cellsS s x) 24))
  generalize (W.alloc (.cells (cellsS s x) 24)) = w1 at HA HK ⊢
  generalize W.heap.size = g at HA ⊢
  go_wp2_with fail
  refine (awake11 (HG.out.below HA.out.bel)).mono ?_
  rintro e w2 ⟨rfl, b2⟩
  have HS := Lib.hid (HA.out.call b2)
  have HK2 := Lib.hid (Kd.C_below HK.out b2)
  clear HA HK b2
  obtain ⟨q0, q1, q2, q3, q4, q5, q6, q7⟩ := cells8 HS.out.blk
  go_wp2_with fail
  refine (great_n HS.out.ms).mono ?_
  rintro e w3 ⟨rfl, b3⟩
  rw [hgr]
  have HS3 := Lib.hid (HS.out.call b3)
  have HK3 := Lib.hid (Kd.C_below HK2.out b3)
  clear HS HK2 b3 q0 q1 q2 q3 q4 q5 q6 q7 hgr
  obtain ⟨q0, q1, q2, q3, q4, q5, q6, q7⟩ := cells8 HS3.out.blk
  go_wp2_with fail
  refine (own_few HS3.out.ms HF.out).mono ?_
  rintro e w4 ⟨x4, rfl, m4, b4⟩
  have HS4 := Lib.hid (HS3.out.call b4)
  have HM4 := Lib.hid m4
  have HK4 := Lib.hid (Kd.C_below HK3.out b4)
  clear HS3 HK3 b4 m4 q0 q1 q2 q3 q4 q5 q6 q7
  go_upto_region 4 with fail
  have ba := (Below.refl _ w4).alloc (Nat.le_refl _) (.cells (cellsS (ofS s) x4) 31)
  have HX := Lib.hid (show XB W g w4.heap.size s x (ofS s) x4 (w4.alloc (.cells (cellsS (ofS s) x4) 31)) from
    ⟨(HS4.out.call ba).bel, (HS4.out.call ba).blk, new_obj w4 _, HM4.out.below ba⟩)
  have HK5 := Lib.hid (Kd.C_below HK4.out ba)
  clear HS4 HM4 HK4 ba
  show Code.wp _ _ _ _ (w4.alloc (.cells (cellsS (ofS s) x4) 31))
  generalize (w4.alloc (.cells (cellsS (ofS s) x4) 31)) = w5 at HX HK5 ⊢
  generalize w4.heap.size = g2 at HX ⊢
  have HN := Lib.hid (few_norm HF.out)
  generalize ofS s = o at HX HN ⊢
  obtain ⟨q0, q1, q2, q3, q4, q5, q6, q7⟩ := cells8o HX.out.oblk
  go_upto_region 6 with fail
  clear q0 q1 q2 q3 q4 q5 q6 q7
  have ba := (Below.refl _ w5).alloc (Nat.le_refl _) (.cells (cellsS o x4) 31)
  have HY := Lib.hid (show XB W g g2 s x o x4 (w5.alloc (.cells (cellsS o x4) 31)) ∧ (w5.alloc (.cells (cellsS o x4) 31)).heap[w5.heap.size]? = some (.cells (cellsS o x4) 31 (0, 0)) ∧ Below w5.heap.size w5 (w5.alloc (.cells (cellsS o x4) 31)) from ⟨HX.out.call ba, new_obj w5 _, ba⟩)
  have HK6 := Lib.hid (Kd.C_below HK5.out ba)
  clear HK5 ba
  show Code.wp _ _ _ _ (w5.alloc (.cells (cellsS o x4) 31))
  generalize (w5.alloc (.cells (cellsS o x4) 31)) = w6 at HY HK6 ⊢
  obtain ⟨g3, Hg3⟩ : ∃ g3, Hid (w5.heap.size = g3) := ⟨_, rfl⟩
  have HY2 : Hid (w6.heap[g3]? = some (.cells (cellsS o x4) 31 (0, 0))) := by rw [← Hg3.out]; exact HY.out.2.1
  rw [Hg3.out]
  have HLn : Hid (l.length < 8796093022208) := by have := HL5.out; show _ < _; omega
  have HOl : Hid ((ofL l).length < 100000) := by have := (ofL_spec l).2.2; have := HL5.out; show _ < _; omega
  have HOn : Hid (o.F.length < 100000) := by have := HN.out.lf; show _ < _; omega
  have hg35 : w5.heap.size ≤ g3 := Nat.le_of_eq Hg3.out
  go_cut [25] (fun _ wc => ∃ A9 c9, Hid (XB W g g2 s x o x4 wc ∧ wc.heap[g3]? = some (.cells (cellsS ⟨o.head, o.R, o.H, ofL (o.F ++ ofL l), o.turned, o.failed, o.again, o.joins⟩ ⟨x4.A1, x4.c1, x4.A2, x4.c2, A9, c9⟩) 31 (0, 0)) ∧ MS wc ⟨o.head, o.R, o.H, ofL (o.F ++ ofL l), o.turned, o.failed, o.again, o.joins⟩ ⟨x4.A1, x4.c1, x4.A2, x4.c2, A9, c9⟩))
  case first =>
    have q3 := cellO (off := 3) (show w6.drew.heap[g3]? = _ from HY2.out) rfl
    go_region_with
         (first
           | (go_at_call 29; refine (of_c (Kd.C_below HK6.out (below_drew1 (Below.refl _ w6))) hlc HLn.out).mono ?_; rintro e y1 ⟨A1, c1, rfl, s1, e1, hb⟩; have h6 := (below_drew1 (Below.refl w6.heap.size w6)).trans hb; have q3' := cellO (off := 3) (blk_of HY2.out h6) rfl)
           | (go_at_call 28; refine (or_r (Kd.C_below HY.out.1.ms.r3 h6) HY.out.1.ms.l3 s1 e1 HOn.out HOl.out).mono ?_; rintro e y2 ⟨A9, c9, rfl, hr, hb⟩; have h7 := h6.trans (hb.mono h6.size); have hz0 := cellO (off := 3) (blk_of HY2.out h7) rfl; have hzf := frozenO (off := 3) (blk_of HY2.out h7)))
    all_goals
      have hbb := below_set (j := 3) (v := .slice A9 (ofL (o.F ++ ofL l)).length c9) (HY.out.2.2.trans (h7.mono HY.out.2.2.size)) hg35
      have hrr := Kd.R_far (Kd.R_bound hr) (p := ⟨g3, 3, none⟩) (fun k hk => by have := hk.2.1; have := blk_lt (blk_of HY2.out h6); show k ≠ g3; omega) (.slice A9 (ofL (o.F ++ ofL l)).length c9)
      go_wp2_with fail
      go_meet
      case rel => exact ⟨A9, c9, HX.out.call hbb, blk_put (blk_of HY2.out h7) 3 _ rfl, ⟨Kd.C_below HX.out.ms.r1 hbb, HX.out.ms.l1, Kd.C_below HX.out.ms.r2 hbb, HX.out.ms.l2, (R_slice hrr).1, (R_slice hrr).2⟩⟩
  case rest =>
    obtain ⟨A9, c9, HR⟩ := hcut
    have HM := Lib.hid (more_F o l)
    have HP : Hid (NS ⟨o.head, o.R, o.H, ofL (o.F ++ ofL l), o.turned, o.failed, o.again, o.joins⟩ 17) := ⟨HN.out.r, HN.out.h, (ofL_spec _).1, Nat.le_trans HN.out.lr (by omega), Nat.le_trans HN.out.lh (by omega), or_len HN.out.lf HL5.out⟩
    clear HK6 HY HY2 HX Hg3 HOl HOn HLn hg35 hn5 hlc HL5
    generalize (⟨o.head, o.R, o.H, ofL (o.F ++ ofL l), o.turned, o.failed, o.again, o.joins⟩ : St) = p at HR HM HP
    generalize (⟨x4.A1, x4.c1, x4.A2, x4.c2, A9, c9⟩ : Sx) = y at HR
    have HX := Lib.hid HR.out.1
    have HYb := Lib.hid HR.out.2.1
    have HYm := Lib.hid HR.out.2.2
    clear HR
    have HO := Lib.hid (HN.out.mono (m := 900) (by omega))
    have HP9 := Lib.hid (HP.out.mono (m := 900) (by omega))
    have HL1 : Hid (Norm (lostS p) ∧ (lostS p).length < 1000000) := ⟨(lost_norm HP.out).1, by have := (lost_norm HP.out).2; omega⟩
    have HL2 : Hid (Norm (lostS o) ∧ (lostS o).length < 1000000) := ⟨(lost_norm HN.out).1, by have := (lost_norm HN.out).2; omega⟩
    have HLe := Lib.hid (HM.out.less HN.out HP.out)
    have HSu := Lib.hid (HM.out.sure HN.out HP.out)
    have HGo := Lib.hid (HM.out.go HN.out HP.out)
    have HC1 := Lib.hid (fun (X : World) (hm : MS X p y) => lost_c hm HP9.out)
    have HC2 := Lib.hid (fun (X : World) (hm : MS X o x4) => lost_c hm HO.out)
    have HC3 := Lib.hid (fun (X : World) (hm : MS X p y) => sure_c hm HP9.out)
    have HC4 := Lib.hid (fun (X : World) (hm : MS X o x4) => sure_c hm HO.out)
    have HC5 := Lib.hid (fun (X : World) (hm : MS X p y) => decide_c hm HP9.out)
    have HC6 := Lib.hid (fun (X : World) (hm : MS X o x4) => decide_c hm HO.out)
    generalize lostS p = L1 at HL1 HLe HC1
    generalize lostS o = L2 at HL2 HLe HC2
    generalize sureS p = t1 at HSu HC3
    generalize sureS o = t2 at HSu HC4
    generalize decS p = d1 at HGo HC5
    generalize decS o = d2 at HGo HC6
    go_upto_region 8 with fail
    clear HG HF HN HP HM HO HP9
    cases t2 with
    | false =>
      obtain ⟨_, p0, p1, p2, p3, p4, p5, p6, p7, q0, q1, q2, q3, q4, q5, q6, q7⟩ := reg88 HX.out.oblk HYb.out (Below.refl _ wc)
      go_region_with
        (first
          | (go_at_call 19; have hh_ := e1; refine (HC2.out _ (HX.out.ms.below (by first | exact hlast | exact below_drew1 (Below.refl _ _)))).mono ?_; rintro e y2 ⟨A2, c2, rfl, s2, e2, hb⟩; have s1 := Kd.C_below s1 hb; have hlast := bel_call2 (by first | exact hlast | exact below_drew1 (Below.refl _ _)) hb; clear p0 p1 p2 p3 p4 p5 p6 p7 q0 q1 q2 q3 q4 q5 q6 q7; obtain ⟨_, p0, p1, p2, p3, p4, p5, p6, p7, q0, q1, q2, q3, q4, q5, q6, q7⟩ := reg88 HX.out.oblk HYb.out hlast)
          | (go_at_call 19; refine (HC1.out _ (HYm.out.below (by first | exact hlast | exact below_drew1 (Below.refl _ _)))).mono ?_; rintro e y1 ⟨A1, c1, rfl, s1, e1, hb⟩; have hlast := bel_call2 (by first | exact hlast | exact below_drew1 (Below.refl _ _)) hb; clear p0 p1 p2 p3 p4 p5 p6 p7 q0 q1 q2 q3 q4 q5 q6 q7; obtain ⟨_, p0, p1, p2, p3, p4, p5, p6, p7, q0, q1, q2, q3, q4, q5, q6, q7⟩ := reg88 HX.out.oblk HYb.out hlast)
          | (go_at_call 30; refine (less_c s1 e1 s2 e2 HL1.out.1 HL2.out.1 HL1.out.2 HL2.out.2).mono ?_; rw [HLe.out]; rintro e y3 ⟨A3, c3, rfl, s3, e3, hb⟩; have hlast := hlast.trans (hb.mono hlast.size); clear p0 p1 p2 p3 p4 p5 p6 p7 q0 q1 q2 q3 q4 q5 q6 q7; obtain ⟨_, p0, p1, p2, p3, p4, p5, p6, p7, q0, q1, q2, q3, q4, q5, q6, q7⟩ := reg88 HX.out.oblk HYb.out hlast)
          | (go_at_call 20; refine (len_c s3 e3 Norm.nil (by decide)).mono ?_; rw [show lenL [] = 0 from rfl]; rintro e y4 ⟨rfl, hb⟩; have hlast := hlast.trans (hb.mono hlast.size); clear p0 p1 p2 p3 p4 p5 p6 p7 q0 q1 q2 q3 q4 q5 q6 q7; obtain ⟨_, p0, p1, p2, p3, p4, p5, p6, p7, q0, q1, q2, q3, q4, q5, q6, q7⟩ := reg88 HX.out.oblk HYb.out hlast)
          | (go_at_call 17; refine (HC4.out _ (HX.out.ms.below hlast)).mono ?_; rintro e y5 ⟨rfl, hb⟩; have hlast := hlast.trans (hb.mono hlast.size); clear p0 p1 p2 p3 p4 p5 p6 p7 q0 q1 q2 q3 q4 q5 q6 q7; obtain ⟨_, p0, p1, p2, p3, p4, p5, p6, p7, q0, q1, q2, q3, q4, q5, q6, q7⟩ := reg88 HX.out.oblk HYb.out hlast))
      all_goals
        have hX := HX.out
        obtain ⟨_, p0, p1, p2, p3, p4, p5, p6, p7, q0, q1, q2, q3, q4, q5, q6, q7⟩ := reg88 HX.out.oblk HYb.out hlast
        by_cases hd : d2 = 1
        · have h1 := HGo.out hd
          subst hd h1
          go_wp2_with fail
          refine (HC6.out _ (HX.out.ms.below hlast)).mono ?_
          rintro e z1 ⟨rfl, hb1⟩
          have hl2 := hlast.trans (hb1.mono hlast.size)
          clear p0 p1 p2 p3 p4 p5 p6 p7 q0 q1 q2 q3 q4 q5 q6 q7
          obtain ⟨_, p0, p1, p2, p3, p4, p5, p6, p7, q0, q1, q2, q3, q4, q5, q6, q7⟩ := reg88 HX.out.oblk HYb.out hl2
          go_wp2_with fail
          refine (HC5.out _ (HYm.out.below hl2)).mono ?_
          rintro e z2 ⟨rfl, hb2⟩
          go_wp2_with fail
          go_ret
          exact ⟨rfl, HX.out.bel.trans ((hl2.trans (hb2.mono hl2.size)).mono HX.out.bel.size)⟩
        · go_wp2_with fail
          refine (HC6.out _ (HX.out.ms.below hlast)).mono ?_
          rintro e z1 ⟨rfl, hb1⟩
          have hl2 := hlast.trans (hb1.mono hlast.size)
          clear p0 p1 p2 p3 p4 p5 p6 p7 q0 q1 q2 q3 q4 q5 q6 q7
          go_wp2_with fail
          go_ret
          exact ⟨rfl, HX.out.bel.trans (hl2.mono HX.out.bel.size)⟩
    | true =>
      have ht1 := HSu.out rfl
      subst ht1
      first
       | (
         go_region_held3 (fun X => Below wc.heap.size wc X ∧ X.cell? ⟨g2, 0, none⟩ = some (.bool o.head) ∧ X.cell? ⟨g2, 1, none⟩ = some (.slice x4.A1 o.R.length x4.c1) ∧ X.cell? ⟨g2, 2, none⟩ = some (.slice x4.A2 o.H.length x4.c2) ∧ X.cell? ⟨g2, 3, none⟩ = some (.slice x4.A3 o.F.length x4.c3) ∧ X.cell? ⟨g2, 4, none⟩ = some (.bool o.turned) ∧ X.cell? ⟨g2, 5, none⟩ = some (.bool o.failed) ∧ X.cell? ⟨g2, 6, none⟩ = some (.int .i64 o.again) ∧ X.cell? ⟨g2, 7, none⟩ = some (.bool o.joins) ∧ X.cell? ⟨g3, 0, none⟩ = some (.bool p.head) ∧ X.cell? ⟨g3, 1, none⟩ = some (.slice y.A1 p.R.length y.c1) ∧ X.cell? ⟨g3, 2, none⟩ = some (.slice y.A2 p.H.length y.c2) ∧ X.cell? ⟨g3, 3, none⟩ = some (.slice y.A3 p.F.length y.c3) ∧ X.cell? ⟨g3, 4, none⟩ = some (.bool p.turned) ∧ X.cell? ⟨g3, 5, none⟩ = some (.bool p.failed) ∧ X.cell? ⟨g3, 6, none⟩ = some (.int .i64 p.again) ∧ X.cell? ⟨g3, 7, none⟩ = some (.bool p.joins))
           (first
             | assumption
             | exact reg88 HX.out.oblk HYb.out (below_drew1 (Below.refl _ wc))
             | exact reg88 HX.out.oblk HYb.out (bel_call (by assumption) hb))
           (first
             | (go_at_call 19; have hh_ := e1; refine (HC2.out _ (HX.out.ms.below (And.left (by assumption)))).mono ?_; rintro e y2 ⟨A2, c2, rfl, s2, e2, hb⟩; have s1 := Kd.C_below s1 hb; have hlast := bel_call (by assumption) hb)
             | (go_at_call 19; refine (HC1.out _ (HYm.out.below (And.left (by assumption)))).mono ?_; rintro e y1 ⟨A1, c1, rfl, s1, e1, hb⟩; have hlast := bel_call (by assumption) hb)
             | (go_at_call 30; refine (less_c s1 e1 s2 e2 HL1.out.1 HL2.out.1 HL1.out.2 HL2.out.2).mono ?_; rw [HLe.out]; rintro e y3 ⟨A3, c3, rfl, s3, e3, hb⟩; have hlast := bel_call (by assumption) hb)
             | (go_at_call 20; refine (len_c s3 e3 Norm.nil (by decide)).mono ?_; rw [show lenL [] = 0 from rfl]; rintro e y4 ⟨rfl, hb⟩; have hlast := bel_call (by assumption) hb)
             | (go_at_call 17; have hh_ := h17; refine (HC3.out _ (HYm.out.below (And.left (by assumption)))).mono ?_; rintro e y6 ⟨rfl, hb⟩; have hlast := bel_call (by assumption) hb)
             | (go_at_call 17; refine (HC4.out _ (HX.out.ms.below (And.left (by assumption)))).mono ?_; rintro e y5 ⟨rfl, hb⟩; have hlast := bel_call (by assumption) hb; have h17 := hlast)))
       | fail
      all_goals
        have hX := HX.out
        obtain ⟨_, p0, p1, p2, p3, p4, p5, p6, p7, q0, q1, q2, q3, q4, q5, q6, q7⟩ := reg88 HX.out.oblk HYb.out hlast
        by_cases hd : d2 = 1
        · have h1 := HGo.out hd
          subst hd h1
          go_wp2_with fail
          refine (HC6.out _ (HX.out.ms.below hlast)).mono ?_
          rintro e z1 ⟨rfl, hb1⟩
          have hl2 := hlast.trans (hb1.mono hlast.size)
          clear p0 p1 p2 p3 p4 p5 p6 p7 q0 q1 q2 q3 q4 q5 q6 q7
          obtain ⟨_, p0, p1, p2, p3, p4, p5, p6, p7, q0, q1, q2, q3, q4, q5, q6, q7⟩ := reg88 HX.out.oblk HYb.out hl2
          go_wp2_with fail
          refine (HC5.out _ (HYm.out.below hl2)).mono ?_
          rintro e z2 ⟨rfl, hb2⟩
          go_wp2_with fail
          go_ret
          exact ⟨rfl, HX.out.bel.trans ((hl2.trans (hb2.mono hl2.size)).mono HX.out.bel.size)⟩
        · go_wp2_with fail
          refine (HC6.out _ (HX.out.ms.below hlast)).mono ?_
          rintro e z1 ⟨rfl, hb1⟩
          have hl2 := hlast.trans (hb1.mono hlast.size)
          clear p0 p1 p2 p3 p4 p5 p6 p7 q0 q1 q2 q3 q4 q5 q6 q7
          go_wp2_with fail
          go_ret
          exact ⟨rfl, HX.out.bel.trans (hl2.mono HX.out.bel.size)⟩
set_option maxHeartbeats 1000000 in
set_option maxRecDepth 100000 in
theorem fenceGoes_few_false {W : World} {s : St} {x : Sx} {A : Option Addr} {c : Nat} {l : List S42} (hg : GT W) (h : MS W s x) (hl : Kd.C k42 W A l.length l) (hlc : l.length ≤ c) (hf : Few s) (h5 : l.length ≤ 5) : Calls Tryd.prog 9 #[stV s x, .slice A l.length c, .bool false] W fun e w' => e = .returned (.bool true) ∧ Below W.heap.size W w' := by
  have HG := Lib.hid hg
  have HA := Lib.hid (AW.box h)
  have HK := Lib.hid (Kd.C_below hl ((Below.refl _ W).alloc (Nat.le_refl _) (.cells (cellsS s x) 24)))
  have HF := Lib.hid hf
  have HL5 := Lib.hid h5
  have hgr : decide (¬ Few s) = false := decide_eq_false (fun hn => hn hf)
  have hn5 : ¬ ((l.length : Int) > 5) := by omega
  clear hg h hf hl h5
  go_enter Tryd.func9, Tryd.ntmps9
  go_upto_region 1 with fail
  show Code.wp _ _ _ _ (W.alloc (.cells (cellsS s x) 24))
  generalize (W.alloc (.cells (cellsS s x) 24)) = w1 at HA HK ⊢
  generalize W.heap.size = g at HA ⊢
  go_wp2_with fail
  refine (awake11 (HG.out.below HA.out.bel)).mono ?_
  rintro e w2 ⟨rfl, b2⟩
  have HS := Lib.hid (HA.out.call b2)
  have HK2 := Lib.hid (Kd.C_below HK.out b2)
  clear HA HK b2
  obtain ⟨q0, q1, q2, q3, q4, q5, q6, q7⟩ := cells8 HS.out.blk
  go_wp2_with fail
  refine (great_n HS.out.ms).mono ?_
  rintro e w3 ⟨rfl, b3⟩
  rw [hgr]
  have HS3 := Lib.hid (HS.out.call b3)
  have HK3 := Lib.hid (Kd.C_below HK2.out b3)
  clear HS HK2 b3 q0 q1 q2 q3 q4 q5 q6 q7 hgr
  obtain ⟨q0, q1, q2, q3, q4, q5, q6, q7⟩ := cells8 HS3.out.blk
  go_wp2_with fail
  refine (own_few HS3.out.ms HF.out).mono ?_
  rintro e w4 ⟨x4, rfl, m4, b4⟩
  have HS4 := Lib.hid (HS3.out.call b4)
  have HM4 := Lib.hid m4
  have HK4 := Lib.hid (Kd.C_below HK3.out b4)
  clear HS3 HK3 b4 m4 q0 q1 q2 q3 q4 q5 q6 q7
  go_upto_region 4 with fail
  have ba := (Below.refl _ w4).alloc (Nat.le_refl _) (.cells (cellsS (ofS s) x4) 31)
  have HX := Lib.hid (show XB W g w4.heap.size s x (ofS s) x4 (w4.alloc (.cells (cellsS (ofS s) x4) 31)) from
    ⟨(HS4.out.call ba).bel, (HS4.out.call ba).blk, new_obj w4 _, HM4.out.below ba⟩)
  have HK5 := Lib.hid (Kd.C_below HK4.out ba)
  clear HS4 HM4 HK4 ba
  show Code.wp _ _ _ _ (w4.alloc (.cells (cellsS (ofS s) x4) 31))
  generalize (w4.alloc (.cells (cellsS (ofS s) x4) 31)) = w5 at HX HK5 ⊢
  generalize w4.heap.size = g2 at HX ⊢
  have HN := Lib.hid (few_norm HF.out)
  generalize ofS s = o at HX HN ⊢
  obtain ⟨q0, q1, q2, q3, q4, q5, q6, q7⟩ := cells8o HX.out.oblk
  go_upto_region 7 with fail
  clear q0 q1 q2 q3 q4 q5 q6 q7
  have ba := (Below.refl _ w5).alloc (Nat.le_refl _) (.cells (cellsS o x4) 31)
  have HY := Lib.hid (show XB W g g2 s x o x4 (w5.alloc (.cells (cellsS o x4) 31)) ∧ (w5.alloc (.cells (cellsS o x4) 31)).heap[w5.heap.size]? = some (.cells (cellsS o x4) 31 (0, 0)) ∧ Below w5.heap.size w5 (w5.alloc (.cells (cellsS o x4) 31)) from ⟨HX.out.call ba, new_obj w5 _, ba⟩)
  have HK6 := Lib.hid (Kd.C_below HK5.out ba)
  clear HK5 ba
  show Code.wp _ _ _ _ (w5.alloc (.cells (cellsS o x4) 31))
  generalize (w5.alloc (.cells (cellsS o x4) 31)) = w6 at HY HK6 ⊢
  obtain ⟨g3, Hg3⟩ : ∃ g3, Hid (w5.heap.size = g3) := ⟨_, rfl⟩
  have HY2 : Hid (w6.heap[g3]? = some (.cells (cellsS o x4) 31 (0, 0))) := by rw [← Hg3.out]; exact HY.out.2.1
  rw [Hg3.out]
  have HLn : Hid (l.length < 8796093022208) := by have := HL5.out; show _ < _; omega
  have HOl : Hid ((ofL l).length < 100000) := by have := (ofL_spec l).2.2; have := HL5.out; show _ < _; omega
  have HOn : Hid (o.H.length < 100000) := by have := HN.out.lh; show _ < _; omega
  have hg35 : w5.heap.size ≤ g3 := Nat.le_of_eq Hg3.out
  go_cut [25] (fun _ wc => ∃ A9 c9, Hid (XB W g g2 s x o x4 wc ∧ wc.heap[g3]? = some (.cells (cellsS ⟨o.head, o.R, ofL (o.H ++ ofL l), o.F, o.turned, o.failed, o.again, o.joins⟩ ⟨x4.A1, x4.c1, A9, c9, x4.A3, x4.c3⟩) 31 (0, 0)) ∧ MS wc ⟨o.head, o.R, ofL (o.H ++ ofL l), o.F, o.turned, o.failed, o.again, o.joins⟩ ⟨x4.A1, x4.c1, A9, c9, x4.A3, x4.c3⟩))
  case first =>
    have q2 := cellO (off := 2) (show w6.drew.heap[g3]? = _ from HY2.out) rfl
    go_region_with
         (first
           | (go_at_call 29; refine (of_c (Kd.C_below HK6.out (below_drew1 (Below.refl _ w6))) hlc HLn.out).mono ?_; rintro e y1 ⟨A1, c1, rfl, s1, e1, hb⟩; have h6 := (below_drew1 (Below.refl w6.heap.size w6)).trans hb; have q2' := cellO (off := 2) (blk_of HY2.out h6) rfl)
           | (go_at_call 28; refine (or_r (Kd.C_below HY.out.1.ms.r2 h6) HY.out.1.ms.l2 s1 e1 HOn.out HOl.out).mono ?_; rintro e y2 ⟨A9, c9, rfl, hr, hb⟩; have h7 := h6.trans (hb.mono h6.size); have hz0 := cellO (off := 2) (blk_of HY2.out h7) rfl; have hzf := frozenO (off := 2) (blk_of HY2.out h7)))
    all_goals
      have hbb := below_set (j := 2) (v := .slice A9 (ofL (o.H ++ ofL l)).length c9) (HY.out.2.2.trans (h7.mono HY.out.2.2.size)) hg35
      have hrr := Kd.R_far (Kd.R_bound hr) (p := ⟨g3, 2, none⟩) (fun k hk => by have := hk.2.1; have := blk_lt (blk_of HY2.out h6); show k ≠ g3; omega) (.slice A9 (ofL (o.H ++ ofL l)).length c9)
      go_wp2_with fail
      go_meet
      case rel => exact ⟨A9, c9, HX.out.call hbb, blk_put (blk_of HY2.out h7) 2 _ rfl, ⟨Kd.C_below HX.out.ms.r1 hbb, HX.out.ms.l1, (R_slice hrr).1, (R_slice hrr).2, Kd.C_below HX.out.ms.r3 hbb, HX.out.ms.l3⟩⟩
  case rest =>
    obtain ⟨A9, c9, HR⟩ := hcut
    have HM := Lib.hid (more_H o l)
    have HP : Hid (NS ⟨o.head, o.R, ofL (o.H ++ ofL l), o.F, o.turned, o.failed, o.again, o.joins⟩ 17) := ⟨HN.out.r, (ofL_spec _).1, HN.out.f, Nat.le_trans HN.out.lr (by omega), or_len HN.out.lh HL5.out, Nat.le_trans HN.out.lf (by omega)⟩
    clear HK6 HY HY2 HX Hg3 HOl HOn HLn hg35 hn5 hlc HL5
    generalize (⟨o.head, o.R, ofL (o.H ++ ofL l), o.F, o.turned, o.failed, o.again, o.joins⟩ : St) = p at HR HM HP
    generalize (⟨x4.A1, x4.c1, A9, c9, x4.A3, x4.c3⟩ : Sx) = y at HR
    have HX := Lib.hid HR.out.1
    have HYb := Lib.hid HR.out.2.1
    have HYm := Lib.hid HR.out.2.2
    clear HR
    have HO := Lib.hid (HN.out.mono (m := 900) (by omega))
    have HP9 := Lib.hid (HP.out.mono (m := 900) (by omega))
    have HL1 : Hid (Norm (lostS p) ∧ (lostS p).length < 1000000) := ⟨(lost_norm HP.out).1, by have := (lost_norm HP.out).2; omega⟩
    have HL2 : Hid (Norm (lostS o) ∧ (lostS o).length < 1000000) := ⟨(lost_norm HN.out).1, by have := (lost_norm HN.out).2; omega⟩
    have HLe := Lib.hid (HM.out.less HN.out HP.out)
    have HSu := Lib.hid (HM.out.sure HN.out HP.out)
    have HGo := Lib.hid (HM.out.go HN.out HP.out)
    have HC1 := Lib.hid (fun (X : World) (hm : MS X p y) => lost_c hm HP9.out)
    have HC2 := Lib.hid (fun (X : World) (hm : MS X o x4) => lost_c hm HO.out)
    have HC3 := Lib.hid (fun (X : World) (hm : MS X p y) => sure_c hm HP9.out)
    have HC4 := Lib.hid (fun (X : World) (hm : MS X o x4) => sure_c hm HO.out)
    have HC5 := Lib.hid (fun (X : World) (hm : MS X p y) => decide_c hm HP9.out)
    have HC6 := Lib.hid (fun (X : World) (hm : MS X o x4) => decide_c hm HO.out)
    generalize lostS p = L1 at HL1 HLe HC1
    generalize lostS o = L2 at HL2 HLe HC2
    generalize sureS p = t1 at HSu HC3
    generalize sureS o = t2 at HSu HC4
    generalize decS p = d1 at HGo HC5
    generalize decS o = d2 at HGo HC6
    go_upto_region 8 with fail
    clear HG HF HN HP HM HO HP9
    cases t2 with
    | false =>
      obtain ⟨_, p0, p1, p2, p3, p4, p5, p6, p7, q0, q1, q2, q3, q4, q5, q6, q7⟩ := reg88 HX.out.oblk HYb.out (Below.refl _ wc)
      go_region_with
        (first
          | (go_at_call 19; have hh_ := e1; refine (HC2.out _ (HX.out.ms.below (by first | exact hlast | exact below_drew1 (Below.refl _ _)))).mono ?_; rintro e y2 ⟨A2, c2, rfl, s2, e2, hb⟩; have s1 := Kd.C_below s1 hb; have hlast := bel_call2 (by first | exact hlast | exact below_drew1 (Below.refl _ _)) hb; clear p0 p1 p2 p3 p4 p5 p6 p7 q0 q1 q2 q3 q4 q5 q6 q7; obtain ⟨_, p0, p1, p2, p3, p4, p5, p6, p7, q0, q1, q2, q3, q4, q5, q6, q7⟩ := reg88 HX.out.oblk HYb.out hlast)
          | (go_at_call 19; refine (HC1.out _ (HYm.out.below (by first | exact hlast | exact below_drew1 (Below.refl _ _)))).mono ?_; rintro e y1 ⟨A1, c1, rfl, s1, e1, hb⟩; have hlast := bel_call2 (by first | exact hlast | exact below_drew1 (Below.refl _ _)) hb; clear p0 p1 p2 p3 p4 p5 p6 p7 q0 q1 q2 q3 q4 q5 q6 q7; obtain ⟨_, p0, p1, p2, p3, p4, p5, p6, p7, q0, q1, q2, q3, q4, q5, q6, q7⟩ := reg88 HX.out.oblk HYb.out hlast)
          | (go_at_call 30; refine (less_c s1 e1 s2 e2 HL1.out.1 HL2.out.1 HL1.out.2 HL2.out.2).mono ?_; rw [HLe.out]; rintro e y3 ⟨A3, c3, rfl, s3, e3, hb⟩; have hlast := hlast.trans (hb.mono hlast.size); clear p0 p1 p2 p3 p4 p5 p6 p7 q0 q1 q2 q3 q4 q5 q6 q7; obtain ⟨_, p0, p1, p2, p3, p4, p5, p6, p7, q0, q1, q2, q3, q4, q5, q6, q7⟩ := reg88 HX.out.oblk HYb.out hlast)
          | (go_at_call 20; refine (len_c s3 e3 Norm.nil (by decide)).mono ?_; rw [show lenL [] = 0 from rfl]; rintro e y4 ⟨rfl, hb⟩; have hlast := hlast.trans (hb.mono hlast.size); clear p0 p1 p2 p3 p4 p5 p6 p7 q0 q1 q2 q3 q4 q5 q6 q7; obtain ⟨_, p0, p1, p2, p3, p4, p5, p6, p7, q0, q1, q2, q3, q4, q5, q6, q7⟩ := reg88 HX.out.oblk HYb.out hlast)
          | (go_at_call 17; refine (HC4.out _ (HX.out.ms.below hlast)).mono ?_; rintro e y5 ⟨rfl, hb⟩; have hlast := hlast.trans (hb.mono hlast.size); clear p0 p1 p2 p3 p4 p5 p6 p7 q0 q1 q2 q3 q4 q5 q6 q7; obtain ⟨_, p0, p1, p2, p3, p4, p5, p6, p7, q0, q1, q2, q3, q4, q5, q6, q7⟩ := reg88 HX.out.oblk HYb.out hlast))
      all_goals
        have hX := HX.out
        obtain ⟨_, p0, p1, p2, p3, p4, p5, p6, p7, q0, q1, q2, q3, q4, q5, q6, q7⟩ := reg88 HX.out.oblk HYb.out hlast
        by_cases hd : d2 = 1
        · have h1 := HGo.out hd
          subst hd h1
          go_wp2_with fail
          refine (HC6.out _ (HX.out.ms.below hlast)).mono ?_
          rintro e z1 ⟨rfl, hb1⟩
          have hl2 := hlast.trans (hb1.mono hlast.size)
          clear p0 p1 p2 p3 p4 p5 p6 p7 q0 q1 q2 q3 q4 q5 q6 q7
          obtain ⟨_, p0, p1, p2, p3, p4, p5, p6, p7, q0, q1, q2, q3, q4, q5, q6, q7⟩ := reg88 HX.out.oblk HYb.out hl2
          go_wp2_with fail
          refine (HC5.out _ (HYm.out.below hl2)).mono ?_
          rintro e z2 ⟨rfl, hb2⟩
          go_wp2_with fail
          go_ret
          exact ⟨rfl, HX.out.bel.trans ((hl2.trans (hb2.mono hl2.size)).mono HX.out.bel.size)⟩
        · go_wp2_with fail
          refine (HC6.out _ (HX.out.ms.below hlast)).mono ?_
          rintro e z1 ⟨rfl, hb1⟩
          have hl2 := hlast.trans (hb1.mono hlast.size)
          clear p0 p1 p2 p3 p4 p5 p6 p7 q0 q1 q2 q3 q4 q5 q6 q7
          go_wp2_with fail
          go_ret
          exact ⟨rfl, HX.out.bel.trans (hl2.mono HX.out.bel.size)⟩
    | true =>
      have ht1 := HSu.out rfl
      subst ht1
      first
       | (
         go_region_held3 (fun X => Below wc.heap.size wc X ∧ X.cell? ⟨g2, 0, none⟩ = some (.bool o.head) ∧ X.cell? ⟨g2, 1, none⟩ = some (.slice x4.A1 o.R.length x4.c1) ∧ X.cell? ⟨g2, 2, none⟩ = some (.slice x4.A2 o.H.length x4.c2) ∧ X.cell? ⟨g2, 3, none⟩ = some (.slice x4.A3 o.F.length x4.c3) ∧ X.cell? ⟨g2, 4, none⟩ = some (.bool o.turned) ∧ X.cell? ⟨g2, 5, none⟩ = some (.bool o.failed) ∧ X.cell? ⟨g2, 6, none⟩ = some (.int .i64 o.again) ∧ X.cell? ⟨g2, 7, none⟩ = some (.bool o.joins) ∧ X.cell? ⟨g3, 0, none⟩ = some (.bool p.head) ∧ X.cell? ⟨g3, 1, none⟩ = some (.slice y.A1 p.R.length y.c1) ∧ X.cell? ⟨g3, 2, none⟩ = some (.slice y.A2 p.H.length y.c2) ∧ X.cell? ⟨g3, 3, none⟩ = some (.slice y.A3 p.F.length y.c3) ∧ X.cell? ⟨g3, 4, none⟩ = some (.bool p.turned) ∧ X.cell? ⟨g3, 5, none⟩ = some (.bool p.failed) ∧ X.cell? ⟨g3, 6, none⟩ = some (.int .i64 p.again) ∧ X.cell? ⟨g3, 7, none⟩ = some (.bool p.joins))
           (first
             | assumption
             | exact reg88 HX.out.oblk HYb.out (below_drew1 (Below.refl _ wc))
             | exact reg88 HX.out.oblk HYb.out (bel_call (by assumption) hb))
           (first
             | (go_at_call 19; have hh_ := e1; refine (HC2.out _ (HX.out.ms.below (And.left (by assumption)))).mono ?_; rintro e y2 ⟨A2, c2, rfl, s2, e2, hb⟩; have s1 := Kd.C_below s1 hb; have hlast := bel_call (by assumption) hb)
             | (go_at_call 19; refine (HC1.out _ (HYm.out.below (And.left (by assumption)))).mono ?_; rintro e y1 ⟨A1, c1, rfl, s1, e1, hb⟩; have hlast := bel_call (by assumption) hb)
             | (go_at_call 30; refine (less_c s1 e1 s2 e2 HL1.out.1 HL2.out.1 HL1.out.2 HL2.out.2).mono ?_; rw [HLe.out]; rintro e y3 ⟨A3, c3, rfl, s3, e3, hb⟩; have hlast := bel_call (by assumption) hb)
             | (go_at_call 20; refine (len_c s3 e3 Norm.nil (by decide)).mono ?_; rw [show lenL [] = 0 from rfl]; rintro e y4 ⟨rfl, hb⟩; have hlast := bel_call (by assumption) hb)
             | (go_at_call 17; have hh_ := h17; refine (HC3.out _ (HYm.out.below (And.left (by assumption)))).mono ?_; rintro e y6 ⟨rfl, hb⟩; have hlast := bel_call (by assumption) hb)
             | (go_at_call 17; refine (HC4.out _ (HX.out.ms.below (And.left (by assumption)))).mono ?_; rintro e y5 ⟨rfl, hb⟩; have hlast := bel_call (by assumption) hb; have h17 := hlast)))
       | fail
      all_goals
        have hX := HX.out
        obtain ⟨_, p0, p1, p2, p3, p4, p5, p6, p7, q0, q1, q2, q3, q4, q5, q6, q7⟩ := reg88 HX.out.oblk HYb.out hlast
        by_cases hd : d2 = 1
        · have h1 := HGo.out hd
          subst hd h1
          go_wp2_with fail
          refine (HC6.out _ (HX.out.ms.below hlast)).mono ?_
          rintro e z1 ⟨rfl, hb1⟩
          have hl2 := hlast.trans (hb1.mono hlast.size)
          clear p0 p1 p2 p3 p4 p5 p6 p7 q0 q1 q2 q3 q4 q5 q6 q7
          obtain ⟨_, p0, p1, p2, p3, p4, p5, p6, p7, q0, q1, q2, q3, q4, q5, q6, q7⟩ := reg88 HX.out.oblk HYb.out hl2
          go_wp2_with fail
          refine (HC5.out _ (HYm.out.below hl2)).mono ?_
          rintro e z2 ⟨rfl, hb2⟩
          go_wp2_with fail
          go_ret
          exact ⟨rfl, HX.out.bel.trans ((hl2.trans (hb2.mono hl2.size)).mono HX.out.bel.size)⟩
        · go_wp2_with fail
          refine (HC6.out _ (HX.out.ms.below hlast)).mono ?_
          rintro e z1 ⟨rfl, hb1⟩
          have hl2 := hlast.trans (hb1.mono hlast.size)
          clear p0 p1 p2 p3 p4 p5 p6 p7 q0 q1 q2 q3 q4 q5 q6 q7
          go_wp2_with fail
          go_ret
          exact ⟨rfl, HX.out.bel.trans (hl2.mono HX.out.bel.size)⟩
set_option maxHeartbeats 1000000 in
set_option maxRecDepth 100000 in
theorem fenceGoes_many {W : World} {s : St} {x : Sx} {A : Option Addr} {c : Nat} {l : List S42} {b : Bool} (hg : GT W) (h : MS W s x) (hl : Kd.C k42 W A l.length l) (hf : ¬ Few s) : Calls Tryd.prog 9 #[stV s x, .slice A l.length c, .bool b] W fun e w' => e = .returned (.bool true) ∧ Below W.heap.size W w' := by
  have HG := Lib.hid hg
  have HA := Lib.hid (AW.box h)
  have HK := Lib.hid (Kd.C_below hl ((Below.refl _ W).alloc (Nat.le_refl _) (.cells (cellsS s x) 24)))
  have hgr : decide (¬ Few s) = true := decide_eq_true hf
  clear hg h hf hl
  go_enter Tryd.func9, Tryd.ntmps9
  go_upto_region 1 with fail
  show Code.wp _ _ _ _ (W.alloc (.cells (cellsS s x) 24))
  generalize (W.alloc (.cells (cellsS s x) 24)) = w1 at HA HK ⊢
  generalize W.heap.size = g at HA ⊢
  go_wp2_with fail
  refine (awake11 (HG.out.below HA.out.bel)).mono ?_
  rintro e w2 ⟨rfl, b2⟩
  have HS := Lib.hid (HA.out.call b2)
  have HK2 := Lib.hid (Kd.C_below HK.out b2)
  clear HA HK b2
  obtain ⟨q0, q1, q2, q3, q4, q5, q6, q7⟩ := cells8 HS.out.blk
  go_wp2_with fail
  refine (great_n HS.out.ms).mono ?_
  rintro e w3 ⟨rfl, b3⟩
  rw [hgr]
  have HS3 := Lib.hid (HS.out.call b3)
  have HK3 := Lib.hid (Kd.C_below HK2.out b3)
  clear HS HK2 b3 q0 q1 q2 q3 q4 q5 q6 q7 hgr
  go_wp2_with fail
  refine (awake11 (HG.out.below HS3.out.bel)).mono ?_
  rintro e w4 ⟨rfl, b4⟩
  have HS4 := Lib.hid (HS3.out.call b4)
  clear HS3 b4
  go_wp2_with fail
  go_ret
  exact ⟨rfl, HS4.out.bel⟩
set_option maxHeartbeats 1000000 in
set_option maxRecDepth 100000 in
theorem fenceGoes_five {W : World} {s : St} {x : Sx} {A : Option Addr} {c : Nat} {l : List S42} {b : Bool} (hg : GT W) (h : MS W s x) (hl : Kd.C k42 W A l.length l) (hf : Few s) (h5 : ¬ l.length ≤ 5) : Calls Tryd.prog 9 #[stV s x, .slice A l.length c, .bool b] W fun e w' => e = .returned (.bool true) ∧ Below W.heap.size W w' := by
  have HG := Lib.hid hg
  have HA := Lib.hid (AW.box h)
  have HK := Lib.hid (Kd.C_below hl ((Below.refl _ W).alloc (Nat.le_refl _) (.cells (cellsS s x) 24)))
  have hgr : decide (¬ Few s) = false := decide_eq_false (fun hn => hn hf)
  have hn5 : ((l.length : Int) > 5) := by omega
  clear hg h hf hl h5
  go_enter Tryd.func9, Tryd.ntmps9
  go_upto_region 1 with fail
  show Code.wp _ _ _ _ (W.alloc (.cells (cellsS s x) 24))
  generalize (W.alloc (.cells (cellsS s x) 24)) = w1 at HA HK ⊢
  generalize W.heap.size = g at HA ⊢
  go_wp2_with fail
  refine (awake11 (HG.out.below HA.out.bel)).mono ?_
  rintro e w2 ⟨rfl, b2⟩
  have HS := Lib.hid (HA.out.call b2)
  have HK2 := Lib.hid (Kd.C_below HK.out b2)
  clear HA HK b2
  obtain ⟨q0, q1, q2, q3, q4, q5, q6, q7⟩ := cells8 HS.out.blk
  go_wp2_with fail
  refine (great_n HS.out.ms).mono ?_
  rintro e w3 ⟨rfl, b3⟩
  rw [hgr]
  have HS3 := Lib.hid (HS.out.call b3)
  have HK3 := Lib.hid (Kd.C_below HK2.out b3)
  clear HS HK2 b3 q0 q1 q2 q3 q4 q5 q6 q7 hgr
  go_wp2_with fail
  refine (awake11 (HG.out.below HS3.out.bel)).mono ?_
  rintro e w4 ⟨rfl, b4⟩
  have HS4 := Lib.hid (HS3.out.call b4)
  clear HS3 b4
  go_wp2_with fail
  go_ret
  exact ⟨rfl, HS4.out.bel⟩
theorem fenceGoes_walk {W : World} {s : St} {x : Sx} {A : Option Addr} {c : Nat} {l : List S42} (hg : GT W) (h : MS W s x) (hl : Kd.C k42 W A l.length l) (hlc : l.length ≤ c) (b : Bool) : Calls Tryd.prog 9 #[stV s x, .slice A l.length c, .bool b] W fun e w' => e = .returned (.bool true) ∧ Below W.heap.size W w' := by
  by_cases hf : Few s
  · by_cases h5 : l.length ≤ 5
    · cases b with
      | true => exact fenceGoes_few_true hg h hl hlc hf h5
      | false => exact fenceGoes_few_false hg h hl hlc hf h5
    · exact fenceGoes_five hg h hl hf h5
  · exact fenceGoes_many hg h hl hf
end Go.Proofs.YtbgojgoejlhgeaaDoor.Pr
