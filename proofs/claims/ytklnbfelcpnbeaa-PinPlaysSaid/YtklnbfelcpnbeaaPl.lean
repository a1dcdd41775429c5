/- Whatever is taken, freed and shut, Pins tell what the document says, act by act: the walk of PinPlays. Conditions: the acts lie in memory. -/
import Derived.Test.YtklnbfelcpnbeaaPp
import Derived.Deep.DeepCutAuto
import Derived.Deep.CutBlock
import Derived.Deep.RegionHeld3
import Derived.WalkSpells
namespace Go.Proofs.Ytklnbfelcpnbeaa
open Go.RowKit Go.Maps Go.MuLone

/-- what PinPlays' loop keeps -/
structure PL (w1 : World) (p m X : Nat) (H : List Ho) (S : List Int) (N : Nat) (v : Value) (W : World) : Prop where
  sg : SG w1 p m (shS S) [] H N v W
  bx : ∃ a1 c1 a2 c2 a3 c3, BX w1 X H S a1 c1 a2 c2 a3 c3 W
theorem g_key_new {w0 W W' : World} {p m N : Nat} {sh : Int → Bool} {H : List Ho} {x : Nat} {n : Int} {b : Bool} (h : SK w0 W p m sh (H ++ [(x, n, b)]) N W') :
    Calls Try.prog 16 #[.pointer (some ⟨x, 0, none⟩)] W' fun e w' => e = .returned (.int .i64 n) ∧ w' = W' := by
  have hi : H.length < (H ++ [(x, n, b)]).length := by simp
  have e : (H ++ [(x, n, b)])[H.length] = (x, n, b) := by simp
  have hk := g_key h hi
  rw [e] at hk
  exact hk.mono fun _ _ ⟨h1, h2⟩ => ⟨h1, h2.symm⟩
theorem g_all' {w0 w W' : World} {p m N : Nat} {sh : Int → Bool} {A : List Ho} (h : SK w0 w p m sh A N W') (hN : N < 100000) :
    Calls Try.prog 21 #[.pointer (some ⟨p, 0, none⟩)] W' fun e w' => ∃ a cap, e = .returned (.slice a (allF A).length cap) ∧ Sl w' 2 a (allF A).length (ints .i64 (allF A)) ∧ SK w0 w p m sh A N w' := by
  refine (g_all h hN).mono ?_
  rintro e w' ⟨a, cap, ss, he, hr, hi, hl, h'⟩
  have : ss = allF A := hi.unique (allF_all A)
  subst this
  exact ⟨a, cap, he, Sl.of_row hr, h'⟩
theorem SK.kpf {w0 W W' : World} {p m N : Nat} {sh : Int → Bool} {A : List Ho} (h : SK w0 W p m sh A N W') : Kp W W' := by obtain ⟨K, h⟩ := h; exact h.keep
/-- Pins with all their holds (A), of which the first (H) lie in the slice v -/
structure PO (w0 : World) (p m : Nat) (sh : Int → Bool) (A H : List Ho) (N : Nat) (v : Value) (W : World) : Prop where
  st : ∃ K, ST w0 W p m 0 (fun n => cnt n A) sh A N K W
  own : W.ownsRow w0.heap.size 26 1 v H.length (hps H)
section
variable {w0 W W' : World} {p m N N' X : Nat} {sh sh' : Int → Bool} {A A' H H' : List Ho} {v : Value}
theorem PO.of (h : SG w0 p m sh [] H N v W) : PO w0 p m sh H H N v W := ⟨h.st, h.own⟩
theorem PO.sk (h : PO w0 p m sh A H N v W) : SK w0 W p m sh A N W := h.st
theorem PO.prog (h : PO w0 p m sh A H N v W) (k : SK w0 W p m sh' A' N' W') : PO w0 p m sh' A' H N' v W' := by
  obtain ⟨K, k⟩ := k
  exact ⟨⟨K, k.rebase⟩, k.keep.row h.own (by decide) (by decide) (by decide)⟩
theorem PO.step (h : PO w0 p m sh A H N v W) (c : Ch (fun _ => False) W W') : PO w0 p m sh A H N v W' := by
  obtain ⟨K, k⟩ := h.st
  exact h.prog ⟨K, k.step c⟩
theorem PO.box (h : PO w0 p m sh A H N v W) (far : w0.heap.size ≤ X) {x : Array Value} (hx : W.heap[X]? = some (.cells x 40)) (c : Ch (fun j => j = X) W W') : PO w0 p m sh A H N v W' := by
  obtain ⟨K, k⟩ := h.st
  refine ⟨⟨K, ST.other k c (fun j hj _ => by subst hj; exact ⟨far, x, 40, _, hx, by decide, by decide, by decide⟩)⟩, c.ownsRow h.own (fun j hj hjX => ?_)⟩
  obtain ⟨_, cs, z, h'⟩ := own_obj h.own hj
  rw [hjX, hx] at h'; cases h'
theorem PO.push {x : Nat} {n : Int} {b : Bool} {v' : Value} {W1 : World} (h : PO w0 p m sh (H ++ [(x, n, b)]) H N v W)
    (hg : W.grownBy W1 v.ownBlock) (own : W1.ownsRow w0.heap.size 26 1 v' (H.length + 1) (hps H ++ [.pointer (some ⟨x, 0, none⟩)])) : SG w0 p m sh [] (H ++ [(x, n, b)]) N v' W1 := by
  obtain ⟨K, k⟩ := h.st
  refine ⟨⟨K, ST.other k (T := fun j => v.ownBlock = some j) ((Ch.refl _ _).grown hg (fun j e => .inl e)) (fun j ht _ => ?_)⟩, ?_⟩
  · obtain ⟨h1, cs, z, h2⟩ := own_obj h.own ht
    exact ⟨h1, cs, 26, z, h2, by decide, by decide, by decide⟩
  · rw [List.length_append, hps_append]; exact own
theorem PO.sg (h : PO w0 p m sh A H N v W) (hh : hps A = hps H) (hl : A.length = H.length) : SG w0 p m sh [] A N v W := ⟨h.st, by rw [hh, hl]; exact h.own⟩
theorem PO.mono (h : PO w0 p m sh A H N v W) (hN : N ≤ N') : PO w0 p m sh A H N' v W := by
  obtain ⟨K, k⟩ := h.st
  exact ⟨⟨K, k.mono hN⟩, h.own⟩
end
/-- the act's box -/
def actB (P : Nat) (A : Ac) (W : World) : Prop := W.heap[P]? = some (.cells #[.int .u8 A.1, .int .i64 A.2.1, .int .u8 A.2.2] 35)
/-- the reference's answer r, stored into the box X: what the walk needs to know at the world of its copy, and what comes of it -/
structure AF (w1 : World) (X P : Nat) (A : Ac) (H : List Ho) (S : List Int) (a1 : Option Addr) (c1 : Nat) (a2 : Option Addr) (c2 : Nat) (a3 : Option Addr) (c3 : Nat) (H' : List Ho) (S' : List Int) (b1 : Option Addr) (d1 : Nat) (b2 : Option Addr) (d2 : Nat) (b3 : Option Addr) (d3 : Nat) (w4 w6 : World) : Prop where
  x0 : w6.cell? ⟨X, 0, none⟩ = some (.slice a1 H.length c1)
  x1 : w6.cell? ⟨X, 1, none⟩ = some (.slice a2 H.length c2)
  x2 : w6.cell? ⟨X, 2, none⟩ = some (.slice a3 S.length c3)
  f0 : w6.frozen? ⟨X, 0, none⟩ = false
  f1 : w6.frozen? ⟨X, 1, none⟩ = false
  f2 : w6.frozen? ⟨X, 2, none⟩ = false
  ch : Ch (fun _ => False) w4 w6
  box : w6.heap[X]? = some (.cells #[.slice a1 H.length c1, .slice a2 H.length c2, .slice a3 S.length c3] 40)
  bx : BX w1 X H' S' b1 d1 b2 d2 b3 d3 (((w6.setCell ⟨X, 0, none⟩ (.slice b1 H'.length d1)).setCell ⟨X, 1, none⟩ (.slice b2 H'.length d2)).setCell ⟨X, 2, none⟩ (.slice b3 S'.length d3))
  cx : Ch (fun j => j = X) w6 (((w6.setCell ⟨X, 0, none⟩ (.slice b1 H'.length d1)).setCell ⟨X, 1, none⟩ (.slice b2 H'.length d2)).setCell ⟨X, 2, none⟩ (.slice b3 S'.length d3))
  act : actB P A (((w6.setCell ⟨X, 0, none⟩ (.slice b1 H'.length d1)).setCell ⟨X, 1, none⟩ (.slice b2 H'.length d2)).setCell ⟨X, 2, none⟩ (.slice b3 S'.length d3))
theorem after_ref {w1 : World} {X P : Nat} {A : Ac} {H : List Ho} {S : List Int} {a1 a2 a3 : Option Addr} {c1 c2 c3 : Nat} {H' : List Ho} {S' : List Int} {b1 b2 b3 : Option Addr} {d1 d2 d3 : Nat} {w4 w5 : World}
    (h : BX w1 X H S a1 c1 a2 c2 a3 c3 w4) (hp : actB P A w4) (c : Ch (fun _ => False) w4 w5) (r : RV w5 H' S' b1 d1 b2 d2 b3 d3) (o : Obj) :
    AF w1 X P A H S a1 c1 a2 c2 a3 c3 H' S' b1 d1 b2 d2 b3 d3 w4 (w5.alloc o) := by
  have c6 := c.alloc o
  have bx6 := h.ch c6
  have hp6 := c6.obj hp (fun h => h)
  have r6 := r.ch ((Ch.refl (fun _ => False) w5).alloc o)
  obtain ⟨k1, k2⟩ := BX.stored (w1 := w1) bx6.far bx6.box r6
  exact ⟨cell_of bx6.box rfl, cell_of bx6.box rfl, cell_of bx6.box rfl, frozen_of bx6.box, frozen_of bx6.box, frozen_of bx6.box, c6, bx6.box, k1, k2, k2.obj hp6 (fun e => by subst e; rw [bx6.box] at hp6; cases hp6)⟩

/-- and behind an act, which lies in the box P -/
structure RT (w1 : World) (p m X P : Nat) (A : Ac) (H : List Ho) (S : List Int) (N : Nat) (v : Value) (a1 : Option Addr) (c1 : Nat) (a2 : Option Addr) (c2 : Nat) (a3 : Option Addr) (c3 : Nat) (W : World) : Prop where
  sg : SG w1 p m (shS S) [] H N v W
  bx : BX w1 X H S a1 c1 a2 c2 a3 c3 W
  act : actB P A W
def RTE (w1 : World) (p m X P : Nat) (A : Ac) (H : List Ho) (S : List Int) (N : Nat) (v : Value) (W : World) : Prop := ∃ a1 c1 a2 c2 a3 c3, RT w1 p m X P A H S N v a1 c1 a2 c2 a3 c3 W
section
variable {w1 : World} {p m X P N : Nat} {A : Ac} {H : List Ho} {S : List Int} {v : Value} {a1 a2 a3 : Option Addr} {c1 c2 c3 : Nat} {W W' : World}
theorem RT.step (h : RT w1 p m X P A H S N v a1 c1 a2 c2 a3 c3 W) (c : Ch (fun _ => False) W W') : RT w1 p m X P A H S N v a1 c1 a2 c2 a3 c3 W' :=
  ⟨h.sg.step c, h.bx.ch c, c.obj h.act (fun h => h)⟩
theorem RT.prog (h : RT w1 p m X P A H S N v a1 c1 a2 c2 a3 c3 W) (k : SK w1 W p m (shS S) ([] ++ H) N W') : RT w1 p m X P A H S N v a1 c1 a2 c2 a3 c3 W' :=
  ⟨h.sg.keep k rfl rfl, h.bx.kp k.kpf, k.kpf.block _ _ _ _ h.act (by decide) (by decide) (by decide)⟩
theorem RT.oc (h : RT w1 p m X P A H S N v a1 c1 a2 c2 a3 c3 W) : W.cell? ⟨X, 0, none⟩ = some (.slice a1 H.length c1) ∧ W.cell? ⟨X, 1, none⟩ = some (.slice a2 H.length c2) ∧ W.cell? ⟨X, 2, none⟩ = some (.slice a3 S.length c3) ∧
    W.cell? ⟨P, 1, none⟩ = some (.int .i64 A.2.1) ∧ RT w1 p m X P A H S N v a1 c1 a2 c2 a3 c3 W :=
  ⟨cell_of h.bx.box rfl, cell_of h.bx.box rfl, cell_of h.bx.box rfl, cell_of h.act rfl, h⟩
theorem RT.mono {N' : Nat} (h : RT w1 p m X P A H S N v a1 c1 a2 c2 a3 c3 W) (hN : N ≤ N') : RT w1 p m X P A H S N' v a1 c1 a2 c2 a3 c3 W := ⟨h.sg.mono hN, h.bx, h.act⟩
theorem RT.held (h : RT w1 p m X P A H S N v a1 c1 a2 c2 a3 c3 W) (hw : (Lit.int .i64 A.2.1).wf = true) :
    Calls Try.prog 13 #[.pointer (some ⟨p, 0, none⟩), .int .i64 A.2.1] W fun e w' => e = .returned (.int .i64 (cnt A.2.1 H)) ∧ RT w1 p m X P A H S N v a1 c1 a2 c2 a3 c3 w' :=
  (g_held h.sg.sk hw).mono fun _ _ ⟨he, s⟩ => ⟨he, h.prog s⟩
theorem RT.rheld (h : RT w1 p m X P A H S N v a1 c1 a2 c2 a3 c3 W) (hl : H.length < 900) :
    Calls Try.prog 19 #[refV a1 H.length c1 a2 c2 a3 S.length c3, .int .i64 A.2.1] W fun e w' => e = .returned (.int .i64 (cnt A.2.1 H)) ∧ RT w1 p m X P A H S N v a1 c1 a2 c2 a3 c3 w' :=
  (rheld_any h.bx.rv (by omega)).mono fun _ _ ⟨he, s⟩ => ⟨he, h.step s⟩
theorem RT.all (h : RT w1 p m X P A H S N v a1 c1 a2 c2 a3 c3 W) (hN : N < 900) :
    Calls Try.prog 21 #[.pointer (some ⟨p, 0, none⟩)] W fun e w' => ∃ a cap, e = .returned (.slice a (allF H).length cap) ∧ Sl w' 2 a (allF H).length (ints .i64 (allF H)) ∧ RT w1 p m X P A H S N v a1 c1 a2 c2 a3 c3 w' :=
  (g_all' h.sg.sk (by omega)).mono fun _ _ ⟨a, cap, he, l, s⟩ => ⟨a, cap, he, l, h.prog s⟩
theorem RT.rall (h : RT w1 p m X P A H S N v a1 c1 a2 c2 a3 c3 W) (hl : H.length < 900) {a : Option Addr} (hs : Sl W 2 a (allF H).length (ints .i64 (allF H))) :
    Calls Try.prog 22 #[refV a1 H.length c1 a2 c2 a3 S.length c3] W fun e w' => ∃ a' cap', e = .returned (.slice a' (allF H).length cap') ∧ Sl w' 2 a' (allF H).length (ints .i64 (allF H)) ∧ Sl w' 2 a (allF H).length (ints .i64 (allF H)) ∧ RT w1 p m X P A H S N v a1 c1 a2 c2 a3 c3 w' :=
  (rall_any h.bx.rv hl).mono fun _ _ ⟨a', cap', he, l, c⟩ => ⟨a', cap', he, l, hs.ch c, h.step c⟩
theorem RT.keys (h : RT w1 p m X P A H S N v a1 c1 a2 c2 a3 c3 W) {L : List Int} {a a' : Option Addr} {c c' : Nat} (hs : Sl W 2 a L.length (ints .i64 L)) (hs' : Sl W 2 a' L.length (ints .i64 L)) :
    Calls Try.prog 20 #[.slice a L.length c, .slice a' L.length c'] W fun e w' => e = .returned (.bool true) ∧ RT w1 p m X P A H S N v a1 c1 a2 c2 a3 c3 w' :=
  (keys_any hs hs').mono fun _ _ ⟨he, c⟩ => ⟨he, h.step c⟩
theorem RTE.mk (sg : SG w1 p m (shS S) [] H N v W) (bx : BX w1 X H S a1 c1 a2 c2 a3 c3 W) (act : actB P A W) : RTE w1 p m X P A H S N v W := ⟨_, _, _, _, _, _, sg, bx, act⟩
end

set_option maxRecDepth 100000 in
set_option maxHeartbeats 4000000 in
theorem plays_walk {A : List Ac} {al : Option Addr} {cap : Nat} (hA : okA A) {w : World} (h : Ag w al A.length 3 (flatA A)) :
    Calls Try.prog 5 #[.slice al A.length cap] w fun e w' => e = .returned (.bool true) ∧ Ch (fun _ => False) w w' := by
  obtain ⟨i0, hi0, hz0, hz1, hz2⟩ := info_parts info26
  have hma := h.max
  unfold maxLen at hma
  have HOK := Lib.hid hA
  have HG := Lib.hid h
  clear hA h
  by_cases hlen : (80 : Int) < A.length
  · go_enter Try.func5, Try.ntmps5
    go_wp2_with fail
    refine (wakes_any _).mono ?_
    rintro e w1 ⟨rfl, c0⟩
    go_wp2_with fail
    go_ret
    exact ⟨rfl, c0⟩
  · go_enter Try.func5, Try.ntmps5
    go_wp2_with fail
    refine (wakes_any _).mono ?_
    rintro e w1 ⟨rfl, c0⟩
    have HC := Lib.hid c0
    clear c0
    go_wp2_with fail
    refine (g_new _).mono ?_
    rintro e w2 ⟨p, m, rfl, s0⟩
    have hs2 := s0.size
    have H0 : Hid (PL w1 p m w2.heap.size [] [] 0 (.slice none 0 0) (w2.alloc (.cells #[.slice none 0 0, .slice none 0 0, .slice none 0 0] 40))) :=
      ⟨SG.step ⟨s0.rebase, World.ownsRow_nil _ _ _ _⟩ ((Ch.refl _ w2).alloc _), none, 0, none, 0, none, 0, obj_new _ _, ⟨fun _ => rfl, fun _ => rfl, fun _ => rfl, Sl.nil _ _, Sl.nil _ _, Sl.nil _ _⟩, hs2⟩
    clear s0
    go_wp2_with fail
    go_loopw [27, 5, 7, 8, 9, 10, 11, 12, 13, 14, 15, 16] (fun i v _ _ _ _ _ _ _ _ _ _ wr => ∃ (k : Nat) (H : List Ho) (S : List Int), k ≤ A.length ∧ i = .int .i64 k ∧ H.length ≤ k ∧ S.length ≤ k ∧ Hid (PL w1 p m w2.heap.size H S k v wr)) (fun i _ _ _ _ _ _ _ _ _ _ _ _ => A.length - (intOf i).toNat)
    case atStart => exact ⟨0, [], [], Nat.zero_le _, rfl, Nat.le_refl _, Nat.le_refl _, H0⟩
    case round =>
      obtain ⟨k, H, S, hk, rfl, hHk, hSk, HS⟩ := hrel
      clear H0
      obtain ⟨va, vcap, rfl⟩ := row_of _ HS.out.sg.own
      by_cases hlt : k < A.length
      · obtain ⟨g, o, rfl, hg, hcells⟩ := ((HG.out.ch HC.out).ch HS.out.sg.sk.ch).cells (by omega)
        obtain ⟨e0, e1, e2⟩ := flatA_get A k hlt
        have d0 := hcells _ _ e0
        have d1 := hcells _ _ e1
        have d2 := hcells _ _ e2
        rw [← Nat.add_assoc] at d1 d2
        obtain ⟨⟨q0, q1⟩, hwf, q2, q3⟩ := HOK.out _ (List.getElem_mem hlt)
        have HWF := Lib.hid hwf
        clear hcells e0 e1 e2 hwf
        go_upto_block 2 with fail
        go_cut [5, 8, 9, 10, 11, 12, 13, 14, 15, 16] (fun v _ _ _ _ _ _ _ _ _ wx => ∃ (H' : List Ho) (S' : List Int), H'.length ≤ k + 1 ∧ S'.length ≤ k + 1 ∧ Hid (RTE w1 p m w2.heap.size wr.heap.size A[k] H' S' (k + 1) v wx))
        case first =>
          have HS1 := Lib.hid (HS.out.sg.step ((Ch.refl (fun _ => False) wr).alloc (.cells #[.int .u8 A[k].1, .int .i64 A[k].2.1, .int .u8 A[k].2.2] 35)))
          obtain ⟨a1, c1, a2, c2, a3, c3, bx⟩ := HS.out.bx
          have HB1 := Lib.hid (bx.ch ((Ch.refl (fun _ => False) wr).alloc (.cells #[.int .u8 A[k].1, .int .i64 A[k].2.1, .int .u8 A[k].2.2] 35)))
          have HP1 : Hid (actB wr.heap.size A[k] (wr.alloc (.cells #[.int .u8 A[k].1, .int .i64 A[k].2.1, .int .u8 A[k].2.2] 35))) := obj_new wr _
          have y0 := cell_of (off := 0) (v := .slice a1 H.length c1) bx.box rfl
          have y1 := cell_of (off := 1) (v := .slice a2 H.length c2) bx.box rfl
          have y2 := cell_of (off := 2) (v := .slice a3 S.length c3) bx.box rfl
          have hX := lt_of_obj bx.box
          clear HS bx
          by_cases h0 : A[k].1 % 3 = 0
          · have hb0 : (A[k].1 % 3 == 0) = true := by simpa using h0
            clear h0
            by_cases hsa : A[k].2.1 ∈ S
            · have HSA := Lib.hid (show shS S A[k].2.1 = true by simp [shS, hsa])
              have HSN := Lib.hid hsa
              clear hsa
              go_wp2_with fail
              refine (g_take_no (SG.sk HS1.out) HWF.out (by omega) HSA.out).mono ?_
              rintro e w4 ⟨rfl, s4⟩
              have HPO := Lib.hid ((PO.of HS1.out).prog s4)
              have HB4 := Lib.hid (HB1.out.kp s4.kpf)
              have HP4 : Hid (actB wr.heap.size A[k] w4) := s4.kpf.block _ _ _ _ HP1.out (by decide) (by decide) (by decide)
              have x0 := cell_of (off := 0) (v := .slice a1 H.length c1) HB4.out.box rfl
              have x1 := cell_of (off := 1) (v := .slice a2 H.length c2) HB4.out.box rfl
              have x2 := cell_of (off := 2) (v := .slice a3 S.length c3) HB4.out.box rfl
              have n1 : w4.cell? ⟨wr.heap.size, 1, none⟩ = some (.int .i64 A[k].2.1) := cell_of HP4.out rfl
              clear s4
              go_wp2_with fail
              refine (rtake_no HB4.out.rv HSN.out).mono ?_
              rintro e w5 ⟨b1, e1, b2, e2, b3, e3, rfl, rv5, ch5⟩
              have af := after_ref (A := A[k]) HB4.out HP4.out ch5 rv5 (.cells #[.slice b1 H.length e1, .slice b2 H.length e2, .slice b3 S.length e3] 40)
              clear x0 x1 x2
              have x0 := af.x0
              have x1 := af.x1
              have x2 := af.x2
              have f0 := af.f0
              have f1 := af.f1
              have f2 := af.f2
              have AFH := Lib.hid af
              clear af rv5 ch5
              go_wp2_with fail
              go_meet
              exact ⟨H, S, by omega, by omega, RTE.mk (PO.sg ((HPO.out.step AFH.out.ch).box AFH.out.bx.far AFH.out.box AFH.out.cx) rfl rfl) AFH.out.bx AFH.out.act⟩
            · have HSA := Lib.hid (show shS S A[k].2.1 = false by simp [shS, hsa])
              have HSN := Lib.hid hsa
              clear hsa
              go_wp2_with fail
              refine (g_take_yes (SG.sk HS1.out) HWF.out (by omega) HSA.out (by simp; omega)).mono ?_
              rintro e w4 ⟨x, rfl, s4⟩
              have HPO := Lib.hid ((PO.of HS1.out).prog s4)
              have HB4 := Lib.hid (HB1.out.kp s4.kpf)
              have HP4 : Hid (actB wr.heap.size A[k] w4) := s4.kpf.block _ _ _ _ HP1.out (by decide) (by decide) (by decide)
              have x0 := cell_of (off := 0) (v := .slice a1 H.length c1) HB4.out.box rfl
              have x1 := cell_of (off := 1) (v := .slice a2 H.length c2) HB4.out.box rfl
              have x2 := cell_of (off := 2) (v := .slice a3 S.length c3) HB4.out.box rfl
              have n1 : w4.cell? ⟨wr.heap.size, 1, none⟩ = some (.int .i64 A[k].2.1) := cell_of HP4.out rfl
              have HRT := rtake_yes HB4.out.rv (by omega) HSN.out x
              obtain ⟨H', hH'⟩ : ∃ H', H' = H ++ [(x, A[k].2.1, false)] := ⟨_, rfl⟩
              rw [← hH'] at HRT
              have HHE := Lib.hid hH'
              clear s4 hH'
              have HRT2 := Lib.hid HRT
              clear HRT
              go_wp2_with fail
              refine HRT2.out.mono ?_
              rintro e w5 ⟨b1, e1, b2, e2, b3, e3, rfl, rv5, ch5⟩
              have af := after_ref (A := A[k]) HB4.out HP4.out ch5 rv5 (.cells #[.slice b1 H'.length e1, .slice b2 H'.length e2, .slice b3 S.length e3] 40)
              clear x0 x1 x2
              have x0 := af.x0
              have x1 := af.x1
              have x2 := af.x2
              have f0 := af.f0
              have f1 := af.f1
              have f2 := af.f2
              have AFH := Lib.hid af
              clear af rv5 ch5
              have HP5 := Lib.hid ((HPO.out.step AFH.out.ch).box AFH.out.bx.far AFH.out.box AFH.out.cx)
              have n5 := cell_of (off := 1) (v := .int .i64 A[k].2.1) AFH.out.act rfl
              have BX5 := Lib.hid AFH.out.bx
              have AC5 := Lib.hid AFH.out.act
              go_wp2_with fail
              clear x0 x1 x2 f0 f1 f2 AFH
              generalize ((((w5.alloc (.cells #[.slice b1 H'.length e1, .slice b2 H'.length e2, .slice b3 S.length e3] 40)).setCell ⟨w2.heap.size, 0, none⟩ (.slice b1 H'.length e1)).setCell ⟨w2.heap.size, 1, none⟩ (.slice b2 H'.length e2)).setCell ⟨w2.heap.size, 2, none⟩ (.slice b3 S.length e3)) = F at HP5 n5 BX5 AC5 ⊢
              go_quiet ((go_at_call 16; exact Calls.quiet_of_same (g_key_new (HP5.out.step (chN _ _ _)).sk)))
              have HP6 := Lib.hid (HP5.out.step (chN (fun _ => False) F nq))
              have BX6 := Lib.hid (BX5.out.ch (chN (fun _ => False) F nq))
              go_wp2_with (at_builtin; refine wpList_append_own _ rfl _ _ 25 rfl w1.heap.size 26 i0 (.pointer none) 1 8 Try.underlying25 hi0 hz0 hz1 hz2 rfl (by decide) _ _ _ rfl (HP6.out.own.alloc _) ⟨F.heap.size, 0, none⟩ 1 1 [.pointer (some ⟨x, 0, none⟩)] rfl rfl ?a1 ?a2 ?a3 ?a4 ?a5 ?_)
              case a1 => exact cell_one_new _ _ _
              case a2 => simp [Value.oneCell']
              case a3 => unfold maxLen; omega
              case a4 => omega
              case a5 => have := HP6.out.sk.ch.size; simp at this ⊢; omega
              intro v' w6 hown6 hgrow6 _
              have HP7 : SG w1 p m (shS S) [] (H ++ [(x, A[k].2.1, false)]) (k + 1) v' w6 := PO.push (HP6.out.step ((Ch.refl (fun _ => False) _).alloc _)) hgrow6 hown6
              have BX7 := (BX6.out.ch ((Ch.refl (fun _ => False) _).alloc _)).grown (HP6.out.own.alloc _) hgrow6
              rw [← HHE.out] at HP7
              have ne := fun (e : v'.ownBlock = some wr.heap.size) => True.intro
              have AC7 : actB wr.heap.size A[k] w6 := by
                have h6 := obj_alloc (o' := .cells #[.pointer (some ⟨x, 0, none⟩)] 26) (show (F.drewN nq).heap[wr.heap.size]? = _ from AC5.out)
                refine ((Ch.refl (fun j => (Value.slice va H.length vcap).ownBlock = some j) _).grown hgrow6 (fun j e => .inl e)).obj h6 (fun ht => ?_)
                obtain ⟨_, cs', z', h'⟩ := own_obj (HP6.out.own.alloc _) ht
                rw [h6] at h'; cases h'
              have HF := Lib.hid (RTE.mk HP7 BX7 AC7)
              have HHL := Lib.hid (show H'.length = H.length + 1 by rw [HHE.out]; simp)
              clear HP7 BX7 AC7 hown6 hgrow6
              go_wp2_with fail
              go_meet
              exact ⟨H', S, by have := HHL.out; omega, by omega, HF⟩
          · have hb0 : (A[k].1 % 3 == 0) = false := by simpa using h0
            clear h0
            by_cases h1 : A[k].1 % 3 = 1
            · have hb1 : (A[k].1 % 3 == 1) = true := by simpa using h1
              clear h1
              by_cases hpos : (0 : Int) < H.length
              · have hz : ((H.length : Int) == 0) = false := by simp; intro e; rw [e] at hpos; simp at hpos
                obtain ⟨j, hj⟩ : ∃ j : Nat, A[k].2.2 % (H.length : Int) = j := ⟨(A[k].2.2 % (H.length : Int)).toNat, by have := Int.emod_nonneg A[k].2.2 (b := (H.length : Int)) (by omega); omega⟩
                have hjH : j < H.length := by have := Int.emod_lt_of_pos A[k].2.2 hpos; omega
                cases hfr : H[j].2.2 with
                | false =>
                  have HFR := Lib.hid hfr
                  clear hfr
                  have HRT := rfree_yes (w := wr.alloc (.cells #[.int .u8 A[k].1, .int .i64 A[k].2.1, .int .u8 A[k].2.2] 35)) HB1.out.rv hjH HFR.out (by omega)
                  obtain ⟨H', hH'⟩ : ∃ H', H' = H.set j (H[j].1, H[j].2.1, true) := ⟨_, rfl⟩
                  rw [← hH'] at HRT
                  have hlH : H'.length = H.length := by rw [hH', List.length_set]
                  have HHE := Lib.hid hH'
                  have HLH := Lib.hid hlH
                  clear hH' hlH
                  have HRT2 := Lib.hid HRT
                  clear HRT
                  go_wp2_with fail
                  rw [hj]
                  refine HRT2.out.mono ?_
                  rintro e w5 ⟨b1, e1, b2, e2, b3, e3, rfl, rv5, ch5⟩
                  have af := after_ref (A := A[k]) HB1.out HP1.out ch5 rv5 (.cells #[.slice b1 H'.length e1, .slice b2 H'.length e2, .slice b3 S.length e3] 40)
                  have x0 := af.x0
                  have x1 := af.x1
                  have x2 := af.x2
                  have f0 := af.f0
                  have f1 := af.f1
                  have f2 := af.f2
                  have AFH := Lib.hid af
                  clear af rv5 ch5
                  have HP5 := Lib.hid (((PO.of HS1.out).step AFH.out.ch).box AFH.out.bx.far AFH.out.box AFH.out.cx)
                  obtain ⟨vg, vcap', ev, hcell⟩ := (PO.sg HP5.out rfl rfl).form (by omega)
                  simp only [Value.slice.injEq] at ev
                  obtain ⟨rfl, -, rfl⟩ := ev
                  have hcj := hcell j hjH
                  clear hcell
                  go_wp2_with fail
                  refine (g_free_yes HP5.out.sk hjH HFR.out).mono ?_
                  rintro e w8 ⟨rfl, s8⟩
                  have HP8 := Lib.hid (HP5.out.prog s8)
                  have HB8 := Lib.hid (AFH.out.bx.kp s8.kpf)
                  have HA8 : Hid (actB wr.heap.size A[k] w8) := s8.kpf.block _ _ _ _ AFH.out.act (by decide) (by decide) (by decide)
                  clear s8
                  go_wp2_with fail
                  go_meet
                  exact ⟨H', S, by have := HLH.out; omega, by omega, RTE.mk ((PO.mono (N' := k + 1) (by rw [HHE.out]; exact HP8.out) (by omega)).sg (by rw [HHE.out]; exact hps_set H j hjH true) HLH.out) HB8.out HA8.out⟩
                | true =>
                  have HFR := Lib.hid hfr
                  clear hfr
                  have HRT := rfree_no (w := wr.alloc (.cells #[.int .u8 A[k].1, .int .i64 A[k].2.1, .int .u8 A[k].2.2] 35)) HB1.out.rv hjH HFR.out (by omega)
                  have HRT2 := Lib.hid HRT
                  clear HRT
                  go_wp2_with fail
                  rw [hj]
                  refine HRT2.out.mono ?_
                  rintro e w5 ⟨b1, e1, b2, e2, b3, e3, rfl, rv5, ch5⟩
                  have af := after_ref (A := A[k]) HB1.out HP1.out ch5 rv5 (.cells #[.slice b1 H.length e1, .slice b2 H.length e2, .slice b3 S.length e3] 40)
                  have x0 := af.x0
                  have x1 := af.x1
                  have x2 := af.x2
                  have f0 := af.f0
                  have f1 := af.f1
                  have f2 := af.f2
                  have AFH := Lib.hid af
                  clear af rv5 ch5
                  have HP5 := Lib.hid (((PO.of HS1.out).step AFH.out.ch).box AFH.out.bx.far AFH.out.box AFH.out.cx)
                  obtain ⟨vg, vcap', ev, hcell⟩ := (PO.sg HP5.out rfl rfl).form (by omega)
                  simp only [Value.slice.injEq] at ev
                  obtain ⟨rfl, -, rfl⟩ := ev
                  have hcj := hcell j hjH
                  clear hcell
                  go_wp2_with fail
                  refine (g_free_no HP5.out.sk hjH HFR.out).mono ?_
                  rintro e w8 ⟨rfl, s8⟩
                  have HP8 := Lib.hid (HP5.out.prog s8)
                  have HB8 := Lib.hid (AFH.out.bx.kp s8.kpf)
                  have HA8 : Hid (actB wr.heap.size A[k] w8) := s8.kpf.block _ _ _ _ AFH.out.act (by decide) (by decide) (by decide)
                  clear s8
                  go_wp2_with fail
                  go_meet
                  exact ⟨H, S, by omega, by omega, RTE.mk ((HP8.out.mono (N' := k + 1) (by omega)).sg rfl rfl) HB8.out HA8.out⟩
              · have hz : ((H.length : Int) == 0) = true := by rw [show (H.length : Int) = 0 by omega]; rfl
                go_wp2_with fail
                exact ⟨⟨k + 1, H, S, by omega, by go_num, by omega, by omega, ⟨HS1.out.mono (by omega), _, _, _, _, _, _, HB1.out⟩⟩, by simp [intOf]; omega⟩
            · have hb1 : (A[k].1 % 3 == 1) = false := by simpa using h1
              clear h1
              by_cases hpc : 0 < cnt A[k].2.1 H
              · have HPC := Lib.hid hpc
                clear hpc
                have HRT := rshut_no (w := wr.alloc (.cells #[.int .u8 A[k].1, .int .i64 A[k].2.1, .int .u8 A[k].2.2] 35)) HB1.out.rv (by omega) HPC.out
                have HRT2 := Lib.hid HRT
                clear HRT
                go_wp2_with fail
                refine HRT2.out.mono ?_
                rintro e w5 ⟨b1, e1, b2, e2, b3, e3, rfl, rv5, ch5⟩
                have af := after_ref (A := A[k]) HB1.out HP1.out ch5 rv5 (.cells #[.slice b1 H.length e1, .slice b2 H.length e2, .slice b3 S.length e3] 40)
                have x0 := af.x0
                have x1 := af.x1
                have x2 := af.x2
                have f0 := af.f0
                have f1 := af.f1
                have f2 := af.f2
                have AFH := Lib.hid af
                clear af rv5 ch5
                have HP5 := Lib.hid (((PO.of HS1.out).step AFH.out.ch).box AFH.out.bx.far AFH.out.box AFH.out.cx)
                have n5 := cell_of (off := 1) (v := .int .i64 A[k].2.1) AFH.out.act rfl
                go_wp2_with fail
                refine (g_shut_no HP5.out.sk HWF.out (by omega) HPC.out).mono ?_
                rintro e w8 ⟨rfl, s8⟩
                have HP8 := Lib.hid (HP5.out.prog s8)
                have HB8 := Lib.hid (AFH.out.bx.kp s8.kpf)
                have HA8 : Hid (actB wr.heap.size A[k] w8) := s8.kpf.block _ _ _ _ AFH.out.act (by decide) (by decide) (by decide)
                clear s8
                go_wp2_with fail
                go_meet
                exact ⟨H, S, by omega, by omega, RTE.mk (HP8.out.sg rfl rfl) HB8.out HA8.out⟩
              · have HPC := Lib.hid (show cnt A[k].2.1 H = 0 by have := cnt_nonneg A[k].2.1 H; omega)
                clear hpc
                by_cases hsa : A[k].2.1 ∈ S
                · have HSN := Lib.hid hsa
                  clear hsa
                  have HRT := rshut_in (w := wr.alloc (.cells #[.int .u8 A[k].1, .int .i64 A[k].2.1, .int .u8 A[k].2.2] 35)) HB1.out.rv (by omega) HPC.out HSN.out
                  have HRT2 := Lib.hid HRT
                  clear HRT
                  go_wp2_with fail
                  refine HRT2.out.mono ?_
                  rintro e w5 ⟨b1, e1, b2, e2, b3, e3, rfl, rv5, ch5⟩
                  have af := after_ref (A := A[k]) HB1.out HP1.out ch5 rv5 (.cells #[.slice b1 H.length e1, .slice b2 H.length e2, .slice b3 S.length e3] 40)
                  have x0 := af.x0
                  have x1 := af.x1
                  have x2 := af.x2
                  have f0 := af.f0
                  have f1 := af.f1
                  have f2 := af.f2
                  have AFH := Lib.hid af
                  clear af rv5 ch5
                  have HP5 := Lib.hid (((PO.of HS1.out).step AFH.out.ch).box AFH.out.bx.far AFH.out.box AFH.out.cx)
                  have n5 := cell_of (off := 1) (v := .int .i64 A[k].2.1) AFH.out.act rfl
                  go_wp2_with fail
                  refine (g_shut_yes HP5.out.sk HWF.out (by omega) HPC.out).mono ?_
                  rintro e w8 ⟨rfl, s8⟩
                  have HP8 := Lib.hid (HP5.out.prog s8)
                  have HB8 := Lib.hid (AFH.out.bx.kp s8.kpf)
                  have HA8 : Hid (actB wr.heap.size A[k] w8) := s8.kpf.block _ _ _ _ AFH.out.act (by decide) (by decide) (by decide)
                  clear s8
                  go_wp2_with fail
                  go_meet
                  exact ⟨H, S, by omega, by omega, RTE.mk (by have := HP8.out.sg rfl rfl; rw [shS_in HSN.out] at this; exact this) HB8.out HA8.out⟩
                · have HSN := Lib.hid hsa
                  clear hsa
                  have HRT := rshut_yes (w := wr.alloc (.cells #[.int .u8 A[k].1, .int .i64 A[k].2.1, .int .u8 A[k].2.2] 35)) HB1.out.rv (by omega) (by omega) HPC.out HSN.out
                  obtain ⟨S', hS'⟩ : ∃ S', S' = S ++ [A[k].2.1] := ⟨_, rfl⟩
                  rw [← hS'] at HRT
                  have HSE := Lib.hid hS'
                  have HLS := Lib.hid (show S'.length = S.length + 1 by rw [hS']; simp)
                  clear hS'
                  have HRT2 := Lib.hid HRT
                  clear HRT
                  go_wp2_with fail
                  refine HRT2.out.mono ?_
                  rintro e w5 ⟨b1, e1, b2, e2, b3, e3, rfl, rv5, ch5⟩
                  have af := after_ref (A := A[k]) HB1.out HP1.out ch5 rv5 (.cells #[.slice b1 H.length e1, .slice b2 H.length e2, .slice b3 S'.length e3] 40)
                  have x0 := af.x0
                  have x1 := af.x1
                  have x2 := af.x2
                  have f0 := af.f0
                  have f1 := af.f1
                  have f2 := af.f2
                  have AFH := Lib.hid af
                  clear af rv5 ch5
                  have HP5 := Lib.hid (((PO.of HS1.out).step AFH.out.ch).box AFH.out.bx.far AFH.out.box AFH.out.cx)
                  have n5 := cell_of (off := 1) (v := .int .i64 A[k].2.1) AFH.out.act rfl
                  go_wp2_with fail
                  refine (g_shut_yes HP5.out.sk HWF.out (by omega) HPC.out).mono ?_
                  rintro e w8 ⟨rfl, s8⟩
                  have HP8 := Lib.hid (HP5.out.prog s8)
                  have HB8 := Lib.hid (AFH.out.bx.kp s8.kpf)
                  have HA8 : Hid (actB wr.heap.size A[k] w8) := s8.kpf.block _ _ _ _ AFH.out.act (by decide) (by decide) (by decide)
                  clear s8
                  go_wp2_with fail
                  go_meet
                  exact ⟨H, S', by omega, by have := HLS.out; omega, RTE.mk (by have := HP8.out.sg rfl rfl; rw [shS_push, ← HSE.out] at this; exact this) HB8.out HA8.out⟩
        case rest =>
          obtain ⟨H', S', hl1, hl2, HT⟩ := hcut
          obtain ⟨a1, c1, a2, c2, a3, c3, rt⟩ := HT.out
          have RT0 := Lib.hid rt
          obtain ⟨o0, o1, o2, o3, o4⟩ := rt.oc
          clear rt HT HS o4
          have K13 := Lib.hid (fun W (h : W.cell? ⟨w2.heap.size, 0, none⟩ = some (.slice a1 H'.length c1) ∧ W.cell? ⟨w2.heap.size, 1, none⟩ = some (.slice a2 H'.length c2) ∧ W.cell? ⟨w2.heap.size, 2, none⟩ = some (.slice a3 S'.length c3) ∧ W.cell? ⟨wr.heap.size, 1, none⟩ = some (.int .i64 A[k].2.1) ∧ RT w1 p m w2.heap.size wr.heap.size A[k] H' S' (k + 1) u5 a1 c1 a2 c2 a3 c3 W) => RT.held h.2.2.2.2 HWF.out)
          have K19 := Lib.hid (fun W (h : W.cell? ⟨w2.heap.size, 0, none⟩ = some (.slice a1 H'.length c1) ∧ W.cell? ⟨w2.heap.size, 1, none⟩ = some (.slice a2 H'.length c2) ∧ W.cell? ⟨w2.heap.size, 2, none⟩ = some (.slice a3 S'.length c3) ∧ W.cell? ⟨wr.heap.size, 1, none⟩ = some (.int .i64 A[k].2.1) ∧ RT w1 p m w2.heap.size wr.heap.size A[k] H' S' (k + 1) u5 a1 c1 a2 c2 a3 c3 W) => RT.rheld h.2.2.2.2 (by omega))
          have K21 := Lib.hid (fun W (h : W.cell? ⟨w2.heap.size, 0, none⟩ = some (.slice a1 H'.length c1) ∧ W.cell? ⟨w2.heap.size, 1, none⟩ = some (.slice a2 H'.length c2) ∧ W.cell? ⟨w2.heap.size, 2, none⟩ = some (.slice a3 S'.length c3) ∧ W.cell? ⟨wr.heap.size, 1, none⟩ = some (.int .i64 A[k].2.1) ∧ RT w1 p m w2.heap.size wr.heap.size A[k] H' S' (k + 1) u5 a1 c1 a2 c2 a3 c3 W) => RT.all h.2.2.2.2 (by omega))
          have K22 := Lib.hid (fun W (h : W.cell? ⟨w2.heap.size, 0, none⟩ = some (.slice a1 H'.length c1) ∧ W.cell? ⟨w2.heap.size, 1, none⟩ = some (.slice a2 H'.length c2) ∧ W.cell? ⟨w2.heap.size, 2, none⟩ = some (.slice a3 S'.length c3) ∧ W.cell? ⟨wr.heap.size, 1, none⟩ = some (.int .i64 A[k].2.1) ∧ RT w1 p m w2.heap.size wr.heap.size A[k] H' S' (k + 1) u5 a1 c1 a2 c2 a3 c3 W) (a : Option Addr) (hs : Sl W 2 a (allF H').length (ints .i64 (allF H'))) => RT.rall h.2.2.2.2 (by omega) hs)
          have K20 := Lib.hid (fun W (h : W.cell? ⟨w2.heap.size, 0, none⟩ = some (.slice a1 H'.length c1) ∧ W.cell? ⟨w2.heap.size, 1, none⟩ = some (.slice a2 H'.length c2) ∧ W.cell? ⟨w2.heap.size, 2, none⟩ = some (.slice a3 S'.length c3) ∧ W.cell? ⟨wr.heap.size, 1, none⟩ = some (.int .i64 A[k].2.1) ∧ RT w1 p m w2.heap.size wr.heap.size A[k] H' S' (k + 1) u5 a1 c1 a2 c2 a3 c3 W) (a a' : Option Addr) (c c' : Nat) (hs : Sl W 2 a (allF H').length (ints .i64 (allF H'))) (hs' : Sl W 2 a' (allF H').length (ints .i64 (allF H'))) => RT.keys (c := c) (c' := c') h.2.2.2.2 hs hs')
          go_wp2_with fail
          go_region_held3 (fun W => W.cell? ⟨w2.heap.size, 0, none⟩ = some (.slice a1 H'.length c1) ∧ W.cell? ⟨w2.heap.size, 1, none⟩ = some (.slice a2 H'.length c2) ∧ W.cell? ⟨w2.heap.size, 2, none⟩ = some (.slice a3 S'.length c3) ∧ W.cell? ⟨wr.heap.size, 1, none⟩ = some (.int .i64 A[k].2.1) ∧
              RT w1 p m w2.heap.size wr.heap.size A[k] H' S' (k + 1) u5 a1 c1 a2 c2 a3 c3 W)
            (first
              | exact (RT0.out.step (Ch.refl _ _).drew).oc
              | exact RT.oc (by assumption))
            (first
              | (go_at_call 13; refine (K13.out _ (by assumption)).mono ?_; rintro e w8 ⟨rfl, rt8⟩)
              | (go_at_call 19; refine (K19.out _ (by assumption)).mono ?_; rintro e w9 ⟨rfl, rt9⟩)
              | (go_at_call 21; refine (K21.out _ (by assumption)).mono ?_; rintro e w10 ⟨l1, p1, rfl, sl10, rt10⟩)
              | (go_at_call 22; refine (K22.out _ (by assumption) _ sl10).mono ?_; rintro e w11 ⟨l2, p2, rfl, sl11, sl12, rt11⟩)
              | (go_at_call 20; refine (K20.out _ (by assumption) _ _ _ _ sl12 sl11).mono ?_; rintro e w12 ⟨rfl, rt12⟩))
          all_goals
            go_wp2_with fail
            exact ⟨⟨k + 1, H', S', by omega, by go_num, by omega, by omega, ⟨rt12.sg, _, _, _, _, _, _, rt12.bx⟩⟩, by simp [intOf]; omega⟩
      · have HW := HS
        clear HS
        go_wp2_with fail
        go_ret
        exact ⟨rfl, HC.out.trans HW.out.sg.sk.ch (fun _ h _ => h)⟩
end Go.Proofs.Ytklnbfelcpnbeaa
