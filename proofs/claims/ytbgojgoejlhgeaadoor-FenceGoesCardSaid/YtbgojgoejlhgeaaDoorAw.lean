/- The document's given answers hold. Conditions: the table of texts lies in memory. -/
import Derived.Test.YtbgojgoejlhgeaaDoorK2
namespace Go.Proofs.YtbgojgoejlhgeaaDoor.Pr
open Go.RowKit Go.Proofs.YtbgojgoejlhgeaaDoorW.PrintWords
theorem cells8 {w : World} {g : Nat} {s : St} {x : Sx} (h : w.heap[g]? = some (.cells (cellsS s x) 24 (0, 0))) :
    w.cell? ⟨g, 0, none⟩ = some (.bool s.head) ∧ w.cell? ⟨g, 1, none⟩ = some (.slice x.A1 s.R.length x.c1) ∧ w.cell? ⟨g, 2, none⟩ = some (.slice x.A2 s.H.length x.c2) ∧ w.cell? ⟨g, 3, none⟩ = some (.slice x.A3 s.F.length x.c3) ∧ w.cell? ⟨g, 4, none⟩ = some (.bool s.turned) ∧ w.cell? ⟨g, 5, none⟩ = some (.bool s.failed) ∧ w.cell? ⟨g, 6, none⟩ = some (.int .i64 s.again) ∧ w.cell? ⟨g, 7, none⟩ = some (.bool s.joins) :=
  ⟨cellO h rfl, cellO h rfl, cellO h rfl, cellO h rfl, cellO h rfl, cellO h rfl, cellO h rfl, cellO h rfl⟩
theorem reg2 {w w' : World} {g : Nat} {A1 A2 : Option Addr} {c1 c2 : Nat} (h : w.heap[g]? = some (.cells (cellsS s1 ⟨A1, c1, A2, c2, none, 0⟩) 24 (0, 0))) (b : Below w.heap.size w w') : Below w.heap.size w w' ∧
    w'.cell? ⟨g, 0, none⟩ = some (.bool true) ∧ w'.cell? ⟨g, 1, none⟩ = some (.slice A1 1 c1) ∧ w'.cell? ⟨g, 2, none⟩ = some (.slice A2 1 c2) ∧ w'.cell? ⟨g, 3, none⟩ = some (.slice none 0 0) ∧ w'.cell? ⟨g, 4, none⟩ = some (.bool true) ∧ w'.cell? ⟨g, 5, none⟩ = some (.bool false) ∧ w'.cell? ⟨g, 6, none⟩ = some (.int .i64 0) ∧ w'.cell? ⟨g, 7, none⟩ = some (.bool true) :=
  ⟨b, cells8 (blk_of h b)⟩
theorem bel_alloc {w W : World} {P : Prop} (h : Below w.heap.size w W ∧ P) (o : Obj) : Below w.heap.size w (W.alloc o) := h.1.alloc h.1.size o
theorem bel_call {w W W' : World} {P : Prop} (h : Below w.heap.size w W ∧ P) (hb : Below W.heap.size W W') : Below w.heap.size w W' := h.1.trans (hb.mono h.1.size)
theorem k42_heap : Kd.Heap k42 := Kd.heap_iso _ (Kd.heap_pair (Kd.heap_int _) (Kd.heap_int _))
theorem spans_r (a b : Int) (w : World) : Calls Tryd.prog 33 #[.int .i64 a, .int .i64 b] w fun e w' => ∃ A c, e = .returned (.slice A 1 c) ∧ Kd.R k42 42 w' w.heap.size (fun _ => True) (.slice A 1 c) [⟨a, b⟩] ∧ Below w.heap.size w w' := by
  refine (w37_spans.calls a b [⟨a, b⟩] w rfl).mono ?_
  rintro e w' ⟨v, rfl, hr, hb⟩
  have hr' : Kd.R k42 42 w' w.heap.size (fun _ => True) v [⟨a, b⟩] := Kd.R_mono hr (fun _ _ => trivial)
  obtain ⟨A, c, rfl, a, b⟩ := Kd.R_reads hr'
  exact ⟨A, c, rfl, hr', hb⟩
theorem lost1_c {w w3 : World} {x : Sx} {P : Prop} (h : MS w s1 x) (hS : Below w3.heap.size w3 w ∧ P) : Calls Tryd.prog 19 #[stV s1 x] w fun e w' => ∃ A c, e = .returned (.agg #[.slice A 1 c]) ∧ Kd.R k42 42 w' w.heap.size (fun _ => True) (.slice A 1 c) [⟨5, 9⟩] ∧ w3.heap.size ≤ w.heap.size ∧ Below w.heap.size w w' := by
  obtain ⟨k, hf⟩ := (progLost m1).rounds
  refine (fence_Lost.calls k _ _ _ _ _ _ _ _ _ _ _ _ _ _ _ w h.r1 h.l1 h.r2 h.l2 h.r3 h.l3 hf).mono ?_
  rintro e w' ⟨v, rfl, hr, hb⟩
  have hr' : Kd.R k42 42 w' w.heap.size (fun _ => True) v [⟨5, 9⟩] := Kd.R_mono hr (fun _ _ => trivial)
  obtain ⟨A, c, rfl, a, b⟩ := Kd.R_reads hr'
  exact ⟨A, c, rfl, hr', hS.1.size, hb⟩
theorem set_reads {w : World} {A : Option Addr} {c base : Nat} {ok : Nat → Prop} {y : S42} (h : Kd.R k42 42 w base ok (.slice A 1 c) [y]) : Kd.C k42 w A 1 [y] ∧ 1 ≤ c := by
  obtain ⟨A', c', e, a, b⟩ := Kd.R_reads h
  injection e with e1 e2 e3
  subst e1 e3
  exact ⟨b, a⟩
/-- a set of its own, apart from the block g -/
theorem own_far {w : World} {A : Option Addr} {c base g : Nat} {ok : Nat → Prop} {y : S42} (h : Kd.R k42 42 w base ok (.slice A 1 c) [y]) (hg : g < base) : ∀ W', KeepBut w W' g none → Kd.C k42 W' A 1 [y] :=
  Kd.C_foot_own (Kd.R_bound h) fun k hk => by have := hk.2.1; omega
/-- the set that lies behind l -/
def LS (g g2 : Nat) (A : Option Addr) (c : Nat) (W : World) : Prop := ∀ W', KeepBut W W' g none → W'.heap[g2]? = some (.cells #[.slice A 1 c] 29 (0, 0)) ∧ Kd.C k42 W' A 1 [⟨5, 9⟩]
theorem LS.step {g g2 c : Nat} {A : Option Addr} {W W2 : World} (h : LS g g2 A c W) (hk : KeepBut W W2 g none) : LS g g2 A c W2 := fun W' hk' => h W' (hk.trans hk' (.inl rfl))
theorem fin_new {w3 w7 : World} {A : Option Addr} {c base g : Nat} {ok : Nat → Prop} (hw : Below w3.heap.size w3 w7) (h : Kd.R k42 42 w7 base ok (.slice A 1 c) [⟨5, 9⟩]) (hb : w3.heap.size ≤ base) (hg : g < w3.heap.size) :
    Hid (Below w3.heap.size w3 (w7.alloc (.cells #[.slice A 1 c] 29)) ∧ LS g w7.heap.size A c (w7.alloc (.cells #[.slice A 1 c] 29))) :=
  ⟨hw.alloc hw.size _, fun W' hk => ⟨hk.blk (new_obj _ _) (by have := hw.size; omega) (by simp), own_far (Kd.R_alloc h _) (by omega) W' hk⟩⟩
theorem fin_set {w3 w7 : World} {A : Option Addr} {c base g2 g : Nat} {ok : Nat → Prop} {u : Value} (hw : Below w3.heap.size w3 w7) (h : Kd.R k42 42 w7 base ok (.slice A 1 c) [⟨5, 9⟩]) (hb : w3.heap.size ≤ base) (hg : g < w3.heap.size) (hg2 : w3.heap.size ≤ g2) (hz : w7.heap[g2]? = some (.cells #[u] 29 (0, 0))) (hl : g2 < base) :
    Hid (Below w3.heap.size w3 (w7.setCell ⟨g2, 0, none⟩ (.slice A 1 c)) ∧ LS g g2 A c (w7.setCell ⟨g2, 0, none⟩ (.slice A 1 c))) := by
  have h' := Kd.R_far (Kd.R_bound h) (p := ⟨g2, 0, none⟩) (fun k hk => by have := hk.2.1; show k ≠ g2; omega) (.slice A 1 c)
  exact ⟨below_set hw hg2, fun W' hk => ⟨hk.blk (blk_set hz 0 _) (by omega) (by simp), own_far h' (by omega) W' hk⟩⟩
/-- the state s lies in the block g, its spans apart from it -/
structure AW (w0 : World) (g : Nat) (s : St) (x : Sx) (W : World) : Prop where
  bel : Below w0.heap.size w0 W
  g0 : w0.heap.size ≤ g
  blk : W.heap[g]? = some (.cells (cellsS s x) 24 (0, 0))
  k1 : ∀ W', KeepBut W W' g none → Kd.C k42 W' x.A1 s.R.length s.R
  l1 : s.R.length ≤ x.c1
  k2 : ∀ W', KeepBut W W' g none → Kd.C k42 W' x.A2 s.H.length s.H
  l2 : s.H.length ≤ x.c2
  k3 : ∀ W', KeepBut W W' g none → Kd.C k42 W' x.A3 s.F.length s.F
  l3 : s.F.length ≤ x.c3
section
variable {w0 W W' : World} {g : Nat} {s : St} {x : Sx}
theorem AW.ms (h : AW w0 g s x W) : MS W s x := ⟨h.k1 W (KeepBut.refl _ _ _), h.l1, h.k2 W (KeepBut.refl _ _ _), h.l2, h.k3 W (KeepBut.refl _ _ _), h.l3⟩
theorem AW.call (h : AW w0 g s x W) (hb : Below W.heap.size W W') : AW w0 g s x W' :=
  ⟨h.bel.trans (hb.mono h.bel.size), h.g0, blk_of h.blk hb, Kd.C_foot_step h.k1 (.of_below hb _ _), h.l1, Kd.C_foot_step h.k2 (.of_below hb _ _), h.l2, Kd.C_foot_step h.k3 (.of_below hb _ _), h.l3⟩
theorem AW.glt (h : AW w0 g s x W) : g < W.heap.size := blk_lt h.blk
theorem keep_set (W : World) (g j : Nat) (u : Value) : KeepBut W (W.setCell ⟨g, j, none⟩ u) g none := (KeepBut.refl W g none).set_ j u
theorem AW.setR (h : AW w0 g s x W) {A : Option Addr} {c base : Nat} {ok : Nat → Prop} {y : S42} (hr : Kd.R k42 42 W base ok (.slice A 1 c) [y]) (hg : g < base) :
    AW w0 g ⟨s.head, [y], s.H, s.F, s.turned, s.failed, s.again, s.joins⟩ ⟨A, c, x.A2, x.c2, x.A3, x.c3⟩ (W.setCell ⟨g, 1, none⟩ (.slice A 1 c)) :=
  ⟨below_set h.bel h.g0, h.g0, blk_put h.blk 1 _ rfl, Kd.C_foot_step (own_far hr hg) (keep_set _ _ _ _), (set_reads hr).2, Kd.C_foot_step h.k2 (keep_set _ _ _ _), h.l2, Kd.C_foot_step h.k3 (keep_set _ _ _ _), h.l3⟩
theorem AW.setF (h : AW w0 g s x W) {A : Option Addr} {c base : Nat} {ok : Nat → Prop} {y : S42} (hr : Kd.R k42 42 W base ok (.slice A 1 c) [y]) (hg : g < base) :
    AW w0 g ⟨s.head, s.R, s.H, [y], s.turned, s.failed, s.again, s.joins⟩ ⟨x.A1, x.c1, x.A2, x.c2, A, c⟩ (W.setCell ⟨g, 3, none⟩ (.slice A 1 c)) :=
  ⟨below_set h.bel h.g0, h.g0, blk_put h.blk 3 _ rfl, Kd.C_foot_step h.k1 (keep_set _ _ _ _), h.l1, Kd.C_foot_step h.k2 (keep_set _ _ _ _), h.l2, Kd.C_foot_step (own_far hr hg) (keep_set _ _ _ _), (set_reads hr).2⟩
theorem AW.setT (h : AW w0 g s x W) (t : Bool) :
    AW w0 g ⟨s.head, s.R, s.H, s.F, t, s.failed, s.again, s.joins⟩ x (W.setCell ⟨g, 4, none⟩ (.bool t)) :=
  ⟨below_set h.bel h.g0, h.g0, blk_put h.blk 4 _ rfl, Kd.C_foot_step h.k1 (keep_set _ _ _ _), h.l1, Kd.C_foot_step h.k2 (keep_set _ _ _ _), h.l2, Kd.C_foot_step h.k3 (keep_set _ _ _ _), h.l3⟩
theorem AW.setFailed (h : AW w0 g s x W) (t : Bool) :
    AW w0 g ⟨s.head, s.R, s.H, s.F, s.turned, t, s.again, s.joins⟩ x (W.setCell ⟨g, 5, none⟩ (.bool t)) :=
  ⟨below_set h.bel h.g0, h.g0, blk_put h.blk 5 _ rfl, Kd.C_foot_step h.k1 (keep_set _ _ _ _), h.l1, Kd.C_foot_step h.k2 (keep_set _ _ _ _), h.l2, Kd.C_foot_step h.k3 (keep_set _ _ _ _), h.l3⟩
theorem AW.setNil (h : AW w0 g s x W) :
    AW w0 g ⟨s.head, [], s.H, s.F, s.turned, s.failed, s.again, s.joins⟩ ⟨none, 0, x.A2, x.c2, x.A3, x.c3⟩ (W.setCell ⟨g, 1, none⟩ (.slice none 0 0)) :=
  ⟨below_set h.bel h.g0, h.g0, blk_put h.blk 1 _ rfl, Kd.C_foot_nil, Nat.le_refl 0, Kd.C_foot_step h.k2 (keep_set _ _ _ _), h.l2, Kd.C_foot_step h.k3 (keep_set _ _ _ _), h.l3⟩
end
theorem newz {w W : World} {o : Obj} (hb : Below (w.alloc o).heap.size (w.alloc o) W) : W.heap[w.heap.size]? = some o ∧ w.heap.size < (w.alloc o).heap.size :=
  ⟨blk_of (new_obj w o) hb, (Array.getElem?_eq_some_iff.1 (new_obj w o)).1⟩
theorem newzd {w W : World} {o : Obj} (hb : Below (w.drew.alloc o).heap.size (w.drew.alloc o) W) : W.heap[w.heap.size]? = some o ∧ w.heap.size < (w.drew.alloc o).heap.size := newz (w := w.drew) hb
set_option maxRecDepth 100000 in
theorem awake11 {w : World} (hg : GT w) : Calls Tryd.prog 11 #[] w fun e w' => e = .returned (.bool true) ∧ Below w.heap.size w w' := by
  have HG := Lib.hid hg
  clear hg
  go_enter Tryd.func11, Tryd.ntmps11
  go_wp2_with fail
  refine (spans_n 3 9 _).mono ?_
  rintro e w1 ⟨A1, c1, rfl, h1, l1, b1⟩
  have H1 := Lib.hid h1
  have B1 := Lib.hid b1
  clear h1 b1
  go_wp2_with fail
  refine (spans_n 3 5 _).mono ?_
  rintro e w2 ⟨A2, c2, rfl, h2, l2, b2⟩
  have H2 := Lib.hid (show Below w.heap.size w w2 ∧ Kd.C k42 w2 A1 1 [⟨3, 9⟩] from ⟨B1.out.trans (b2.mono B1.out.size), Kd.C_below H1.out b2⟩)
  have H3 := Lib.hid h2
  clear h2 b2 H1 B1
  go_wp2_with fail
  have HA := Lib.hid (show AW w w2.heap.size s1 ⟨A1, c1, A2, c2, none, 0⟩ (w2.alloc (.cells (cellsS s1 ⟨A1, c1, A2, c2, none, 0⟩) 24)) from
    ⟨H2.out.1.alloc H2.out.1.size _, H2.out.1.size, new_obj w2 _, Kd.C_foot_came k42_heap H2.out.2 ((Below.refl _ w2).alloc (Nat.le_refl _) _) (Nat.le_refl _), l1, Kd.C_foot_came k42_heap H3.out ((Below.refl _ w2).alloc (Nat.le_refl _) _) (Nat.le_refl _), l2, Kd.C_foot_nil, Nat.le_refl 0⟩)
  clear H2 H3
  show Code.wp _ _ _ _ (w2.alloc (.cells (cellsS s1 ⟨A1, c1, A2, c2, none, 0⟩) 24))
  generalize (w2.alloc (.cells (cellsS s1 ⟨A1, c1, A2, c2, none, 0⟩) 24)) = w3 at HA ⊢
  generalize w2.heap.size = g at HA ⊢
  have HM := Lib.hid HA.out.ms
  have HBK := Lib.hid HA.out.blk
  have HGL := Lib.hid HA.out.glt
  go_cut [2, 3, 10, 11, 12, 13, 14, 15] (fun v2 v3 _ _ _ _ _ _ wc => ∃ g2 A c, v2 = .int .i64 1 ∧ v3 = .pointer (some ⟨g2, 0, none⟩) ∧ Hid (Below w3.heap.size w3 wc ∧ LS g g2 A c wc))
  case first =>
    have hwsz : w3.heap.size ≤ w3.heap.size := Nat.le_refl _
    go_region_held3 (fun W => Below w3.heap.size w3 W ∧ W.cell? ⟨g, 0, none⟩ = some (.bool true) ∧ W.cell? ⟨g, 1, none⟩ = some (.slice A1 1 c1) ∧ W.cell? ⟨g, 2, none⟩ = some (.slice A2 1 c2) ∧ W.cell? ⟨g, 3, none⟩ = some (.slice none 0 0) ∧ W.cell? ⟨g, 4, none⟩ = some (.bool true) ∧ W.cell? ⟨g, 5, none⟩ = some (.bool false) ∧ W.cell? ⟨g, 6, none⟩ = some (.int .i64 0) ∧ W.cell? ⟨g, 7, none⟩ = some (.bool true))
      (first
        | exact reg2 HBK.out (below_drew1 (Below.refl _ w3))
        | exact reg2 HBK.out (bel_alloc (by assumption) _)
        | exact reg2 HBK.out (hw7.alloc hw7.size _)
        | exact reg2 HBK.out (below_set hw7 (by assumption))
        | exact reg2 HBK.out (bel_call (by assumption) hb))
      (first
        | (go_at_call 14; refine (own_n (HM.out.below (And.left (by assumption))) m1).mono ?_; rintro e w5 ⟨x5, rfl, m5, hb⟩; have hw := bel_call (by assumption) hb; have hwsz := hw.size; (first | (have hz := blk_of hz hb) | (have hz := (newzd hb).1) | (have hz := (newz hb).1) | skip))
        | (go_at_call 13; refine (decide_c (m5.below (by first | exact Below.refl _ _ | exact (Below.refl _ _).alloc (Nat.le_refl _) _)) m1).mono ?_; rintro e w6 ⟨rfl, hb⟩; have hw := bel_call (by assumption) hb; have hwsz := hw.size; (first | (have hz := blk_of hz hb) | (have hz := (newzd hb).1) | (have hz := (newz hb).1) | skip))
        | (go_at_call 19; refine (lost1_c (m5.below (by first | exact Below.refl _ _ | exact (Below.refl _ _).alloc (Nat.le_refl _) _)) (by assumption)).mono ?_; rintro e w7 ⟨A, c, rfl, hl, hbs, hb⟩; have hw7 := bel_call (by assumption) hb;
            (first
              | (have hzl := (Array.getElem?_eq_some_iff.1 hz).1; have hz := blk_of hz hb; have hz0 := cellO (off := 0) hz rfl; have hzf := frozenO (off := 0) hz)
              | (obtain ⟨hz, hzl⟩ := newzd hb; have hz0 := cellO (off := 0) hz rfl; have hzf := frozenO (off := 0) hz)
              | (obtain ⟨hz, hzl⟩ := newz hb; have hz0 := cellO (off := 0) hz rfl; have hzf := frozenO (off := 0) hz)
              | skip)))
    all_goals (
      go_wp2_with fail
      go_meet
      case rel => first | exact ⟨_, _, _, by rw [d1], rfl, fin_new hw7 hl hbs HGL.out⟩ | exact ⟨_, _, _, by rw [d1], rfl, fin_set hw7 hl hbs HGL.out (by assumption) hz (by assumption)⟩)
  case rest =>
    obtain ⟨g2, A, c, rfl, rfl, HX⟩ := hcut
    have HS := Lib.hid (HA.out.call HX.out.1)
    have HL := Lib.hid HX.out.2
    clear HA HM HBK HX HGL
    clear w3
    go_wp2_with fail
    refine (spans_r 5 9 _).mono ?_
    rintro e w4 ⟨A4, c4, rfl, r4, b4⟩
    have e1 := cellO (off := 1) (HS.out.call b4).blk rfl
    have f1 := frozenO (off := 1) (HS.out.call b4).blk
    have HS4 := Lib.hid (show AW w g s2 ⟨A4, c4, A2, c2, none, 0⟩ (w4.setCell ⟨g, 1, none⟩ (.slice A4 1 c4)) from (HS.out.call b4).setR r4 HS.out.glt)
    have HL4 := Lib.hid ((HL.out.step (.of_below b4 _ _)).step (keep_set w4 g 1 (.slice A4 1 c4)))
    clear HS HL r4 b4
    go_upto_region 4 with fail
    clear e1 f1
    generalize w4.setCell ⟨g, 1, none⟩ (.slice A4 1 c4) = w5 at HS4 HL4 ⊢
    have HS := HS4
    have HL := HL4
    clear HS4 HL4
    obtain ⟨q0, q1, q2, q3, q4, q5, q6, q7⟩ := cells8 HS.out.blk
    go_wp2_with fail
    refine (own_n HS.out.ms m2).mono ?_
    rintro e z5 ⟨x5, rfl, m5, b5⟩
    have HS5 := Lib.hid (HS.out.call b5)
    have HL5 := Lib.hid (HL.out.step (.of_below b5 _ _))
    have HM5 := Lib.hid m5
    clear HS HL b5 m5 q0 q1 q2 q3 q4 q5 q6 q7
    go_wp2_with fail
    refine (decide_c HM5.out m2).mono ?_
    rintro e v5 ⟨rfl, b5⟩
    have HS := Lib.hid (HS5.out.call b5)
    have HL := Lib.hid (HL5.out.step (.of_below b5 _ _))
    clear HS5 HL5 HM5 b5
    have e1 := cellO (off := 4) HS.out.blk rfl
    have f1 := frozenO (off := 4) HS.out.blk
    have HS4 := Lib.hid (show AW w g s3 ⟨A4, c4, A2, c2, none, 0⟩ (v5.setCell ⟨g, 4, none⟩ (.bool false)) from HS.out.setT false)
    have HL4 := Lib.hid (HL.out.step (keep_set v5 g 4 (.bool false)))
    clear HS HL
    go_upto_region 6 with fail
    clear e1 f1
    generalize v5.setCell ⟨g, 4, none⟩ (.bool false) = w6 at HS4 HL4 ⊢
    have HS := HS4
    have HL := HL4
    clear HS4 HL4
    obtain ⟨q0, q1, q2, q3, q4, q5, q6, q7⟩ := cells8 HS.out.blk
    go_wp2_with fail
    refine (own_n HS.out.ms m3).mono ?_
    rintro e z6 ⟨x6, rfl, m6, b6⟩
    have HS6 := Lib.hid (HS.out.call b6)
    have HL6 := Lib.hid (HL.out.step (.of_below b6 _ _))
    have HM6 := Lib.hid m6
    clear HS HL b6 m6 q0 q1 q2 q3 q4 q5 q6 q7
    go_wp2_with fail
    refine (decide_c HM6.out m3).mono ?_
    rintro e v6 ⟨rfl, b6⟩
    have HS := Lib.hid (HS6.out.call b6)
    have HL := Lib.hid (HL6.out.step (.of_below b6 _ _))
    clear HS6 HL6 HM6 b6
    go_wp2_with fail
    refine (spans_r 5 6 _).mono ?_
    rintro e w7 ⟨A7, c7, rfl, r7, b7⟩
    have e1 := cellO (off := 3) (HS.out.call b7).blk rfl
    have f1 := frozenO (off := 3) (HS.out.call b7).blk
    have HS4 := Lib.hid (show AW w g s4 ⟨A4, c4, A2, c2, A7, c7⟩ (w7.setCell ⟨g, 3, none⟩ (.slice A7 1 c7)) from (HS.out.call b7).setF r7 HS.out.glt)
    have HL4 := Lib.hid ((HL.out.step (.of_below b7 _ _)).step (keep_set w7 g 3 (.slice A7 1 c7)))
    clear HS HL r7 b7
    go_upto_region 8 with fail
    clear e1 f1
    generalize w7.setCell ⟨g, 3, none⟩ (.slice A7 1 c7) = w8 at HS4 HL4 ⊢
    have HS := HS4
    have HL := HL4
    clear HS4 HL4
    obtain ⟨q0, q1, q2, q3, q4, q5, q6, q7⟩ := cells8 HS.out.blk
    go_wp2_with fail
    refine (own_n HS.out.ms m4).mono ?_
    rintro e z8 ⟨x8, rfl, m8, b8⟩
    have HS8 := Lib.hid (HS.out.call b8)
    have HL8 := Lib.hid (HL.out.step (.of_below b8 _ _))
    have HM8 := Lib.hid m8
    clear HS HL b8 m8 q0 q1 q2 q3 q4 q5 q6 q7
    go_wp2_with fail
    refine (decide_c HM8.out m4).mono ?_
    rintro e v8 ⟨rfl, b8⟩
    have HS := Lib.hid (HS8.out.call b8)
    have HL := Lib.hid (HL8.out.step (.of_below b8 _ _))
    clear HS8 HL8 HM8 b8
    have e1 := cellO (off := 1) HS.out.blk rfl
    have f1 := frozenO (off := 1) HS.out.blk
    have HS4 := Lib.hid (show AW w g s5 ⟨none, 0, A2, c2, A7, c7⟩ (v8.setCell ⟨g, 1, none⟩ (.slice none 0 0)) from HS.out.setNil)
    have HL4 := Lib.hid (HL.out.step (keep_set v8 g 1 (.slice none 0 0)))
    clear HS HL
    go_upto_region 10 with fail
    clear e1 f1
    generalize v8.setCell ⟨g, 1, none⟩ (.slice none 0 0) = w9 at HS4 HL4 ⊢
    have HS := HS4
    have HL := HL4
    clear HS4 HL4
    obtain ⟨q0, q1, q2, q3, q4, q5, q6, q7⟩ := cells8 HS.out.blk
    obtain ⟨hbl, hcl⟩ := HL.out w9 (KeepBut.refl _ _ _)
    have ql := cellO (off := 0) hbl rfl
    have HC := Lib.hid hcl
    clear hcl hbl HL
    have D2 := d2
    rw [d2, d3, d4]
    go_wp2_with fail
    clear q0 q1 q2 q3 q4 q5 q6 q7 ql D2
    refine (text_c HC.out).mono ?_
    rintro e v9 ⟨rfl, b9⟩
    have HS9 := Lib.hid (HS.out.call b9)
    clear HS HC b9
    obtain ⟨q0, q1, q2, q3, q4, q5, q6, q7⟩ := cells8 HS9.out.blk
    go_wp2_with fail
    refine (own_n HS9.out.ms m5).mono ?_
    rintro e y1 ⟨x1, rfl, n1, b1⟩
    have HSa := Lib.hid (HS9.out.call b1)
    have HM1 := Lib.hid n1
    clear HS9 n1 b1 q0 q1 q2 q3 q4 q5 q6 q7
    go_wp2_with fail
    refine (decide_c HM1.out m5).mono ?_
    rintro e y2 ⟨rfl, b2⟩
    rw [d5]
    have HSb := Lib.hid (HSa.out.call b2)
    clear HSa HM1 b2
    obtain ⟨q0, q1, q2, q3, q4, q5, q6, q7⟩ := cells8 HSb.out.blk
    go_wp2_with fail
    refine (own_n HSb.out.ms m5).mono ?_
    rintro e y3 ⟨x3, rfl, n3, b3⟩
    have HSc := Lib.hid (HSb.out.call b3)
    have HM3 := Lib.hid n3
    clear HSb n3 b3 q0 q1 q2 q3 q4 q5 q6 q7
    go_wp2_with fail
    refine (sure_c HM3.out m5).mono ?_
    rintro e y4 ⟨rfl, b4⟩
    rw [t5]
    have HSd := Lib.hid (HSc.out.call b4)
    clear HSc HM3 b4
    have HGT := Lib.hid (HG.out.below HSd.out.bel)
    go_wp2_with fail
    refine (text21 HGT.out).mono ?_
    rintro e y5 ⟨rfl, rfl⟩
    rw [show txtI 4 = ⟨#[97, 110, 101, 119]⟩ from rfl]
    go_wp2_with fail
    refine (text21 HGT.out).mono ?_
    rintro e y5 ⟨rfl, rfl⟩
    rw [show txtI 0 = ⟨#[]⟩ from rfl]
    go_wp2_with fail
    go_ret
    exact ⟨rfl, HSd.out.bel⟩
def awake37.f : Option Bool := some true
theorem awake37.calls (r : Bool) (w : World) (h : awake37.f = some r) (hg : GT w) : Calls Tryd.prog 11 #[] w fun e w' => e = .returned (.bool r) ∧ Below w.heap.size w w' := by
  obtain rfl := Option.some.inj h
  exact awake11 hg
def fence_Text.f (d : Int) : Option ByteArray := some (txtI d)
theorem fence_Text.calls (d : Int) (r : ByteArray) (w : World) (h : fence_Text.f d = some r) (hg : GT w) : Calls Tryd.prog 21 #[.int .i64 d] w fun e w' => e = .returned (.string r) ∧ Below w.heap.size w w' := by
  obtain rfl := Option.some.inj h
  refine (text21 hg).mono ?_
  rintro e w' ⟨rfl, rfl⟩
  exact ⟨rfl, Below.refl _ _⟩
def r37_Text.f (d : Int) : Option ByteArray := some (txtI d)
theorem r37_Text.calls (d : Int) (r : ByteArray) (w : World) (h : r37_Text.f d = some r) : Calls Tryd.prog 22 #[.int .i64 d] w fun e w' => e = .returned (.string r) ∧ Below w.heap.size w w' := by
  obtain rfl := Option.some.inj h
  exact text22 d w
end Go.Proofs.YtbgojgoejlhgeaaDoor.Pr
