/- What is added and taken again leaves a book as it was: the walk of BudgetBack. Conditions: the arguments lie in memory. -/
import Derived.Test.YteadclkpoikobaaL6
import Derived.Test.YteadclkpoikobaaOp
import Derived.Laws.OwnMore
namespace Go.Proofs.Yteadclkpoikobaa
open Go.RowKit Go.Maps Go.ChangeMaps Go.WideMaps Go.ChangeShapes Go.WideShapes

theorem open_acts_cap {H : Type} {enc : TypeId × Value → H} {W : World} {fuel : Nat} {a0 : Option Addr} {len cap : Nat} {x : DataW H × List MemPlace} (h : DataW.trod enc Try.prog W 0 (fun _ => true) true fuel 24 [.slice a0 len cap] = some x) (hn : a0 = none) : cap = 0 := by
  rcases Deep.open_slice Try.underlying24 h with ⟨hc, _⟩ | ⟨a, len', cap', m, n, D, Pl, hc, _⟩
  · simp at hc; exact hc.2.2
  · subst hn; simp at hc

/-! plain law: added and taken again -/
theorem BookL.same {w : World} {b m n : Nat} {all share : Int} {L M : List Ln} (h : BookL w b m all share L n) (hi : Inv all share M) (ho : ∀ k, ofL M k = ofL L k) (hs : sumL M = sumL L) : BookL w b m all share M n := by
  obtain ⟨⟨D, hB, r⟩, _⟩ := h
  exact ⟨⟨D, hs ▸ hB, ⟨fun k => by rw [ho]; exact r.at_ k, fun k => by rw [ho]; exact r.has k⟩⟩, hi⟩
theorem back_law {all share : Int} {L : List Ln} (h : Inv all share L) {t : ByteArray} {n : Int} (he : addE all share L t n = 0) :
    lessE (addL all share L t n) t n = 0 ∧ (∀ k, ofL L k = ofL (lessL (addL all share L t n) t n) k) ∧ sumL L = sumL (lessL (addL all share L t n) t n) := by
  have hq : okQ t n = true := by
    unfold addE at he
    by_cases h : okQ t n = false
    · rw [if_pos h] at he; cases he
    · simpa using h
  have e1 : addL all share L t n = withL L t (ofL L t + n) := by unfold addL; rw [if_pos he]
  have h0 := (ofL_rng h t).1
  have hl : lessE (addL all share L t n) t n = 0 := by
    unfold lessE
    rw [e1, ofL_with, if_pos rfl, if_neg (by simp [hq]), if_neg (by omega)]
  have hi := h.add t n
  refine ⟨hl, fun k => ?_, ?_⟩
  · unfold lessL
    rw [if_pos hl, ofL_with, e1, ofL_with, if_pos rfl, ofL_with]
    by_cases hk : t = k
    · subst hk; rw [if_pos rfl]; omega
    · rw [if_neg hk, if_neg hk]
  · unfold lessL
    rw [if_pos hl, sumL_with _ _ _ hi.nodup, e1, ofL_with, if_pos rfl, sumL_with _ _ _ h.nodup]
    omega

theorem flatA_append (A B : List Ac) : flatA (A ++ B) = flatA A ++ flatA B := by
  induction A with
  | nil => rfl
  | cons x r ih => simp [flatA, ih]
theorem flatA_one (A : List Ac) : ∀ u ∈ flatA A, u.oneCell' = true := by
  induction A with
  | nil => simp [flatA]
  | cons x r ih =>
    intro u hu
    simp only [flatA, List.mem_cons] at hu
    rcases hu with rfl | rfl | rfl | hu
    · rfl
    · rfl
    · rfl
    · exact ih u hu
theorem Ag.of_sl {w : World} {e : TypeId} {a : Option Addr} {n size : Nat} {xs : List Value} (h : Sl w e a n size xs) : Ag w a n size xs :=
  ⟨h.len, h.max, fun hn => by
    obtain ⟨g, e, hg, hc⟩ := h.cells hn
    exact ⟨g, 0, e, hg, fun j u hj => by rw [Nat.zero_add]; exact hc j u hj⟩⟩
theorem Ag.one {w : World} {g : Nat} {x : Ac} (h : w.heap[g]? = some (.cells #[.string x.1, .int .i64 x.2.1, .bool x.2.2] 26)) : Ag w (some ⟨g, 0, none⟩) 1 3 (flatA [x]) :=
  ⟨rfl, by unfold maxLen; omega, fun _ => ⟨g, 0, rfl, lt_of_obj h, fun j u hj => by rw [Nat.zero_add]; exact cell_of h (by simpa [flatA] using hj)⟩⟩

theorem info26 : (Try.prog.info? 26).map (fun i => (i.zero, i.size, i.bytes)) = some (some (.agg #[.string ⟨#[]⟩, .int .i64 0, .bool false]), 3, 32) := by kernel_rfl

/-- append of acts to a row of acts, at a step of a region -/
theorem step_app {ops : Array Oper} {o : Oper} {a : Act} {K : Act → World → Prop} {Q : Exit → Act → World → Prop} {E : Prop} {W0 W : World} (hgd : o.guard = none) (s x : Operand)
    (ho : o.op = .call { callee := .builtin .append, args := #[s, x], argTypes := #[24, 24] }) {v : Value} (n : Nat) (xs : List Value) (hs : a.eval s = v) (hown : W.ownsRow W0.heap.size 26 3 v n xs)
    (al : Option Addr) (m capl : Nat) (news : List Value) (hx : a.eval x = .slice al m capl) (hag : Ag W al m 3 news) (hcap : al = none → capl = 0) (h1 : ∀ u ∈ news, u.oneCell' = true) (k : Nat) (hk : n + m = k) (hn : k ≤ 1000)
    (hc : Ch (fun _ => False) W0 W)
    (h : ∀ a' c' w', w'.ownsRow W0.heap.size 26 3 (.slice a' k c') k (xs ++ news) → W.grownBy w' v.ownBlock → Ch (fun _ => False) W0 w' → K (a.put o.dst (.slice a' k c')) w') :
    if Region.wanted o (yielded ops a.tmps) = true then Oper.wp Try.prog o a W K Q else E := by
  obtain ⟨i0, hi0, hz0, hz1, hz2⟩ := info_parts info26
  have hw : Region.wanted o (yielded ops a.tmps) = true := by simp [Region.wanted, hgd]
  rw [if_pos hw]
  subst hk
  have done : ∀ v' w', w'.ownsRow W0.heap.size 26 3 v' (n + m) (xs ++ news) → W.grownBy w' v.ownBlock → K (a.put o.dst v') w' := by
    intro v' w' hr hg
    obtain ⟨a', c', rfl, _⟩ := sl_of_row hr
    exact h a' c' w' hr hg (hc.grown hg (fun b hb => .inr (hown.lt b hb).1))
  cases al with
  | none =>
    obtain rfl : m = 0 := by
      refine Nat.eq_zero_of_not_pos fun hp => ?_
      obtain ⟨g, o, e, _⟩ := hag.cells hp
      cases e
    obtain rfl := hcap rfl
    obtain rfl : news = [] := List.eq_nil_of_length_eq_zero (by simpa using hag.len)
    have hrun := run_append_owned_none (P := Try.prog) (w := W) W0.heap.size 24 o.type 26 i0 3 Try.underlying24 hi0 v n xs hown
    have hk := done v W (by simpa using hown) (World.grownBy.refl _ _)
    unfold Oper.wp
    simp [execOp, ho, resolve, invoke, builtin, hs, hx, hrun, Result.andThen]
    exact hk
  | some ad =>
    refine wp_append_own W s x 24 ho W0.heap.size 26 i0 _ 3 32 Try.underlying24 hi0 hz0 hz1 hz2 rfl (by decide) v n xs hs hown ad m capl news hx hag.len (fun j u hj => ?_) h1 (by unfold maxLen; omega) (by omega) hc.size (fun v' w' p q _ => done v' w' p q)
    have hp : 0 < m := by
      refine Nat.pos_of_ne_zero fun e => ?_
      have hl := hag.len
      subst e
      have : news = [] := List.eq_nil_of_length_eq_zero (by omega)
      subst this
      simp at hj
    obtain ⟨g, o', e, hg, hcc⟩ := hag.cells hp
    cases e
    have : (⟨g, o', none⟩ : Addr).add j = ⟨g, o' + j, none⟩ := by unfold Addr.add; split <;> simp_all
    rw [this]
    exact hcc j u hj

theorem ag_of_row {w : World} {base : Nat} {e : TypeId} {size n cap : Nat} {a : Option Addr} {xs : List Value} (h : w.ownsRow base e size (.slice a n cap) n xs) : Ag w a n size xs := by
  obtain ⟨a', c', e, hs⟩ := sl_of_row h
  cases e
  exact Ag.of_sl hs
theorem grown_obj {W w' : World} {v : Value} {g : Nat} {o : Obj} (hg : W.grownBy w' v.ownBlock) (ho : W.heap[g]? = some o) (hne : some g ≠ v.ownBlock) : w'.heap[g]? = some o := (hg.block g (lt_of_obj ho) hne).trans ho

theorem same_app {q : Ac} {b m n : Nat} {all share : Int} {L : List Ln} {a al : Option Addr} {cap capl : Nat} {A : List Ac} {w : World} (hb : BookL w b m all share L n) (hn : n < 1000000) (hs : Sl w 71 a L.length 2 (flat L)) (hlen : L.length < 1000000) (hg : Ag w al (A.length + 1) 3 (flatA A ++ flatA [q])) (hsh : shortA (A ++ [q]) = true) :
    Calls Try.prog 22 #[.pointer (some ⟨b, 0, none⟩), refV all share (.slice a L.length cap), .slice al (A.length + 1) capl] w fun e w' => e = .returned (.bool true) ∧ Ch (fun _ => False) w w' := by
  have h := same_any (A := A ++ [q]) (capl := capl) (cap := cap) hb hn hs hlen (by rw [flatA_append, List.length_append]; exact hg) hsh
  rwa [List.length_append] at h

/-- what the last region reads, and that nothing of before has turned -/
def OC (W0 : World) (X P : Nat) (all share : Int) (u : Value) (q : Ac) (W : World) : Prop :=
  W.cell? ⟨X, 0, none⟩ = some (.int .i64 all) ∧ W.cell? ⟨X, 1, none⟩ = some (.int .i64 share) ∧ W.cell? ⟨X, 2, none⟩ = some u ∧
  W.cell? ⟨P, 0, none⟩ = some (.string q.1) ∧ W.cell? ⟨P, 1, none⟩ = some (.int .i64 q.2.1) ∧ W.cell? ⟨P, 2, none⟩ = some (.bool q.2.2) ∧ Ch (fun _ => False) W0 W
section
variable {w : World} {b m X n P : Nat} {all share : Int} {L : List Ln} {a al : Option Addr} {cap : Nat} {A : List Ac} {q : Ac} {W0 W W' : World}
theorem OS.oc (h : OS w b m X all share L n a cap P q al A W0) (c : Ch (fun _ => False) W0 W) : OC W0 X P all share (.slice a L.length cap) q W :=
  have h' := h.step c
  ⟨h'.x0, h'.x1, h'.x2, h'.p0, h'.p1, cell_of (off := 2) h'.act rfl, c⟩
theorem OS.rebook (h : OS w b m X all share L n a cap P q al A W) {n' : Nat} {T : Nat → Prop} (c : Ch T W W') (hT : ∀ k, T k → k = b ∨ k = m) (hb : BookL W' b m all share L n') (far : w.heap.size ≤ b ∧ w.heap.size ≤ m) (hl : ∀ g o, al = some ⟨g, o, none⟩ → g < w.heap.size ∨ A.length = 0) : OS w b m X all share L n' a cap P q al A W' := by
  have hx : ¬ T X := fun t => h.book.obj_ne h.xo (by decide) (hT _ t)
  have hp : ¬ T P := fun t => h.book.obj_ne h.act (by decide) (hT _ t)
  refine ⟨hb, c.obj h.xo hx, h.sl.chT c (fun g cur z hg _ t => h.book.obj_ne hg (by decide) (hT _ t)), c.obj h.act hp, ⟨h.ag.len, h.ag.max, fun hn => ?_⟩, h.ch.trans c (fun k hk hl => by have := hT k hk; omega)⟩
  obtain ⟨g, o, e, hg, hc⟩ := h.ag.cells hn
  have hlt := hl g o e
  exact ⟨g, o, e, Nat.lt_of_lt_of_le hg c.size, fun j u hj => (c.cell (p := ⟨g, o + j, none⟩) hg (fun t => by have := hT _ t; simp at this; omega)).trans (hc j u hj)⟩
theorem OC.ch {u : Value} (h : OC W0 X P all share u q W) : Ch (fun _ => False) W0 W := h.2.2.2.2.2.2
end

set_option maxRecDepth 100000 in
set_option maxHeartbeats 2000000 in
theorem back_walk {x y : Int} {A : List Ac} {q : Ac} {a : Option Addr} {cap : Nat} {w : World} (h : Ag w a A.length 3 (flatA A)) (hcp : a = none → cap = 0) :
    Calls Try.prog 6 #[.agg #[.int .i64 x, .int .i64 y], .slice a A.length cap, .agg #[.string q.1, .int .i64 q.2.1, .bool q.2.2]] w fun e w' => e = .returned (.bool true) ∧ Ch (fun _ => False) w w' := by
  have HA := Lib.hid h
  clear h
  have HC0 := ((Ch.refl (fun _ => False) w).alloc (.cells #[.int .i64 x, .int .i64 y] 23)).alloc (.cells #[.string q.1, .int .i64 q.2.1, .bool q.2.2] 26)
  by_cases hs : smallA A = true
  · obtain ⟨hsh, hA⟩ := smallA_of hs
    by_cases hq : q.1.size ≤ 300
    · by_cases hg : 0 ≤ y ∧ y ≤ x ∧ x ≤ 1125899906842624
      · obtain ⟨g0, g1, g2⟩ := hg
        have HI := Lib.hid ((Inv.nil g0 g1 g2).play A)
        have HL := Lib.hid (length_playL60 x y A hA)
        have HP := fun W (hc : Ag W a A.length 3 (flatA A)) => Lib.hid (play_yes (cap := cap) hc hA hsh g0 g1 g2)
        go_enter Try.func6, Try.ntmps6
        go_wp2_with fail
        refine (wakes_any _).mono ?_
        rintro e w1 ⟨rfl, c1⟩
        go_wp2_with fail
        refine (small_any ((HA.out.ch HC0).ch c1)).mono ?_
        rintro e w2 ⟨rfl, c2⟩
        have c12 := c1.trans c2 (fun _ h _ => h)
        have HC := Lib.hid (HC0.trans c12 (fun _ h _ => h))
        have o := c12.obj (obj_alloc (o' := .cells #[.string q.1, .int .i64 q.2.1, .bool q.2.2] 26) (obj_new w (.cells #[.int .i64 x, .int .i64 y] 23))) (fun h => h)
        have o2 := c12.obj (obj_new (w.alloc (.cells #[.int .i64 x, .int .i64 y] 23)) (.cells #[.string q.1, .int .i64 q.2.1, .bool q.2.2] 26)) (fun h => h)
        rw [show (w.alloc (.cells #[.int .i64 x, .int .i64 y] 23)).heap.size = w.heap.size + 1 by simp] at o2
        have x0 := cell_of (off := 0) (v := .int .i64 x) o rfl
        have x1 := cell_of (off := 1) (v := .int .i64 y) o rfl
        have p0 := cell_of (off := 0) (v := .string q.1) o2 rfl
        have HO := Lib.hid o
        have HO2 := Lib.hid o2
        clear c1 c2 c12 o o2 HC0
        go_wp2_with fail
        refine (HP _ (HA.out.ch HC.out)).out.mono ?_
        rintro e w3 ⟨b, m, a', cap', rfl, hb, hm, B3, S3, c3⟩
        generalize playL x y A = L at *
        have hO : OS w b m w3.heap.size x y L 60 a' cap' (w.heap.size + 1) q a A (w3.alloc (.cells #[.int .i64 x, .int .i64 y, .slice a' L.length cap'] 32)) :=
          ⟨B3.ch ((Ch.refl (fun _ => False) w3).alloc _) (fun h => h) (fun h => h), obj_new _ _, S3.alloc _, obj_alloc (c3.obj HO2.out (fun h => h)), ((HA.out.ch HC.out).ch c3).ch ((Ch.refl _ w3).alloc _), (HC.out.trans c3 (fun _ h _ => h)).alloc _⟩
        have p0 := hO.p0
        have p1 := hO.p1
        have HO3 := Lib.hid hO
        clear B3 S3 c3 HO HO2 hO
        go_wp2_with fail
        have hsh2 : shortA (A ++ [q]) = true := by unfold shortA at *; rw [List.all_append, hsh]; simpa using hq
        refine (add_any HO3.out.book (by omega) (by unfold maxLen; omega)).mono ?_
        rintro e w4 ⟨rfl, B4, c4⟩
        have HL9 := Lib.hid (show ∀ g o, a = some ⟨g, o, none⟩ → g < w.heap.size ∨ A.length = 0 from fun g o e => by
          by_cases hz : 0 < A.length
          · obtain ⟨g', o', e', hg', _⟩ := HA.out.cells hz
            rw [e] at e'; cases e'; exact .inl hg'
          · exact .inr (by omega))
        by_cases hae : addE x y L q.1 q.2.1 = 0
        · obtain ⟨g3, g4, g5⟩ := back_law HI.out hae
          have i4 := HO3.out.act
          have n4 := HO3.out.book.obj_ne i4 (by decide)
          have o4 := c4.obj i4 n4
          have p0 := cell_of (off := 0) (v := .string q.1) o4 rfl
          have p1 := cell_of (off := 1) (v := .int .i64 q.2.1) o4 rfl
          have G4 := Lib.hid g4
          have G5 := Lib.hid g5
          have HB4 := Lib.hid B4
          have HC4 := Lib.hid c4
          clear g4 g5 B4 c4 o4 i4
          go_wp2_with fail
          refine (less_any HB4.out (by omega) (by unfold maxLen; omega)).mono ?_
          rintro e w5 ⟨rfl, B5, c5⟩
          rw [g3]
          have hO := HO3.out.rebook (HC4.out.trans c5 (fun _ h _ => h)) (fun _ h => h) (B5.same HI.out G4.out G5.out) ⟨by have := HC.out.size; omega, by have := HC.out.size; omega⟩ HL9.out
          clear B5 c5 HB4 HC4 HO3
          go_wp2_with fail
          go_region_held3 (fun W => W.cell? ⟨w3.heap.size, 0, none⟩ = some (.int .i64 x) ∧ W.cell? ⟨w3.heap.size, 1, none⟩ = some (.int .i64 y) ∧ W.cell? ⟨w3.heap.size, 2, none⟩ = some (.slice a' L.length cap') ∧
              W.cell? ⟨w.heap.size + 1, 0, none⟩ = some (.string q.1) ∧ W.cell? ⟨w.heap.size + 1, 1, none⟩ = some (.int .i64 q.2.1) ∧ W.cell? ⟨w.heap.size + 1, 2, none⟩ = some (.bool q.2.2) ∧ Ch (fun _ => False) w5 W)
            (first
              | exact hO.oc (Ch.refl _ _).drew
              | exact hO.oc (by assumption)
              | exact hO.oc (Ch.alloc (OC.ch (X := w3.heap.size) (P := w.heap.size + 1) (all := x) (share := y) (u := .slice a' L.length cap') (q := q) (by assumption)) _))
            (first
              | (go_at_call 22; refine (same_app (q := q) (A := A) (hO.step ch7).book (by omega) (hO.step ch7).sl (by have := HL.out; omega) (ag_of_row own7) hsh2).mono ?_; rintro e w8 ⟨rfl, c8⟩; have ch8 := ch7.trans c8 (fun _ h _ => h))
              | (refine step_app (W0 := w5) rfl (.tmp 51) (.tmp 52) rfl 0 [] rfl (by first | exact World.ownsRow_lit _ #[] 0 (by simp) (by unfold maxLen; omega) rfl | exact (World.ownsRow_lit _ #[] 0 (by simp) (by unfold maxLen; omega) rfl).alloc _ | (have := World.ownsRow_lit (base := w5.heap.size) (e := 26) (size := 3) (w5.alloc (.cells #[.string q.1, .int .i64 q.2.1, .bool q.2.2] 26)) #[] 0 (by simp) (by unfold maxLen; omega) rfl; rw [show (w5.alloc (.cells #[.string q.1, .int .i64 q.2.1, .bool q.2.2] 26)).heap.size = w5.heap.size + 1 by simp] at this; exact this)) a A.length cap (flatA A) rfl
                  (hO.ag.ch (OC.ch (X := w3.heap.size) (P := w.heap.size + 1) (all := x) (share := y) (u := .slice a' L.length cap') (q := q) (by assumption))) hcp (flatA_one A) A.length (Nat.zero_add _) (by omega)
                  (OC.ch (X := w3.heap.size) (P := w.heap.size + 1) (all := x) (share := y) (u := .slice a' L.length cap') (q := q) (by assumption)) ?_; intro a1 k1 w6 own6 gr6 ch6)
              | (refine step_app (W0 := w5) rfl (.tmp 53) (.tmp 55) rfl A.length (flatA A) rfl (by first | exact own6 | exact own6.alloc _) (some ⟨_, 0, none⟩) 1 1 (flatA [q]) rfl
                  (by first | exact Ag.one (obj_new _ _) | exact Ag.one (grown_obj gr6 (by have := obj_new (w5.alloc (.cells #[] 26)) (.cells #[.string q.1, .int .i64 q.2.1, .bool q.2.2] 26); rw [show (w5.alloc (.cells #[] 26)).heap.size = w5.heap.size + 1 by simp] at this; exact this) (by show some _ ≠ some _; simp)) | exact Ag.one (grown_obj gr6 (obj_alloc (o' := .cells #[] 26) (obj_new w5 (.cells #[.string q.1, .int .i64 q.2.1, .bool q.2.2] 26))) (by show some _ ≠ some _; simp))) (by simp) (flatA_one [q]) (A.length + 1) rfl (by omega)
                  (OC.ch (X := w3.heap.size) (P := w.heap.size + 1) (all := x) (share := y) (u := .slice a' L.length cap') (q := q) (by assumption)) ?_; intro a2 k2 w7 own7 gr7 ch7))
          all_goals
            go_wp2_with fail
            go_ret
            exact ⟨rfl, (hO.step ch8).ch⟩
        · have hae' : (addE x y L q.1 q.2.1 == 0) = false := by simpa using hae
          have e4 : addL x y L q.1 q.2.1 = L := by unfold addL; rw [if_neg hae]
          rw [e4] at B4
          have hO := HO3.out.rebook c4 (fun _ h => h) B4 ⟨by have := HC.out.size; omega, by have := HC.out.size; omega⟩ HL9.out
          clear B4 c4 HO3
          go_wp2_with fail
          go_region_held3 (fun W => W.cell? ⟨w3.heap.size, 0, none⟩ = some (.int .i64 x) ∧ W.cell? ⟨w3.heap.size, 1, none⟩ = some (.int .i64 y) ∧ W.cell? ⟨w3.heap.size, 2, none⟩ = some (.slice a' L.length cap') ∧
              W.cell? ⟨w.heap.size + 1, 0, none⟩ = some (.string q.1) ∧ W.cell? ⟨w.heap.size + 1, 1, none⟩ = some (.int .i64 q.2.1) ∧ W.cell? ⟨w.heap.size + 1, 2, none⟩ = some (.bool q.2.2) ∧ Ch (fun _ => False) w4 W)
            (first
              | exact hO.oc (Ch.refl _ _).drew
              | exact hO.oc (by assumption)
              | exact hO.oc (Ch.alloc (OC.ch (X := w3.heap.size) (P := w.heap.size + 1) (all := x) (share := y) (u := .slice a' L.length cap') (q := q) (by assumption)) _))
            (first
              | (go_at_call 22; refine (same_app (q := q) (A := A) (hO.step ch7).book (by omega) (hO.step ch7).sl (by have := HL.out; omega) (ag_of_row own7) hsh2).mono ?_; rintro e w8 ⟨rfl, c8⟩; have ch8 := ch7.trans c8 (fun _ h _ => h))
              | (refine step_app (W0 := w4) rfl (.tmp 51) (.tmp 52) rfl 0 [] rfl (by first | exact World.ownsRow_lit _ #[] 0 (by simp) (by unfold maxLen; omega) rfl | exact (World.ownsRow_lit _ #[] 0 (by simp) (by unfold maxLen; omega) rfl).alloc _ | (have := World.ownsRow_lit (base := w4.heap.size) (e := 26) (size := 3) (w4.alloc (.cells #[.string q.1, .int .i64 q.2.1, .bool q.2.2] 26)) #[] 0 (by simp) (by unfold maxLen; omega) rfl; rw [show (w4.alloc (.cells #[.string q.1, .int .i64 q.2.1, .bool q.2.2] 26)).heap.size = w4.heap.size + 1 by simp] at this; exact this)) a A.length cap (flatA A) rfl
                  (hO.ag.ch (OC.ch (X := w3.heap.size) (P := w.heap.size + 1) (all := x) (share := y) (u := .slice a' L.length cap') (q := q) (by assumption))) hcp (flatA_one A) A.length (Nat.zero_add _) (by omega)
                  (OC.ch (X := w3.heap.size) (P := w.heap.size + 1) (all := x) (share := y) (u := .slice a' L.length cap') (q := q) (by assumption)) ?_; intro a1 k1 w6 own6 gr6 ch6)
              | (refine step_app (W0 := w4) rfl (.tmp 53) (.tmp 55) rfl A.length (flatA A) rfl (by first | exact own6 | exact own6.alloc _) (some ⟨_, 0, none⟩) 1 1 (flatA [q]) rfl
                  (by first | exact Ag.one (obj_new _ _) | exact Ag.one (grown_obj gr6 (by have := obj_new (w4.alloc (.cells #[] 26)) (.cells #[.string q.1, .int .i64 q.2.1, .bool q.2.2] 26); rw [show (w4.alloc (.cells #[] 26)).heap.size = w4.heap.size + 1 by simp] at this; exact this) (by show some _ ≠ some _; simp)) | exact Ag.one (grown_obj gr6 (obj_alloc (o' := .cells #[] 26) (obj_new w4 (.cells #[.string q.1, .int .i64 q.2.1, .bool q.2.2] 26))) (by show some _ ≠ some _; simp))) (by simp) (flatA_one [q]) (A.length + 1) rfl (by omega)
                  (OC.ch (X := w3.heap.size) (P := w.heap.size + 1) (all := x) (share := y) (u := .slice a' L.length cap') (q := q) (by assumption)) ?_; intro a2 k2 w7 own7 gr7 ch7))
          all_goals
            go_wp2_with fail
            go_ret
            exact ⟨rfl, (hO.step ch8).ch⟩
      · have HP := fun W v => Lib.hid (play_no (v := v) (w := W) hg)
        clear hg
        go_enter Try.func6, Try.ntmps6
        go_wp2_with fail
        refine (wakes_any _).mono ?_
        rintro e w1 ⟨rfl, c1⟩
        go_wp2_with fail
        refine (small_any ((HA.out.ch HC0).ch c1)).mono ?_
        rintro e w2 ⟨rfl, c2⟩
        have c12 := c1.trans c2 (fun _ h _ => h)
        have HC := Lib.hid (HC0.trans c12 (fun _ h _ => h))
        have o := c12.obj (obj_alloc (o' := .cells #[.string q.1, .int .i64 q.2.1, .bool q.2.2] 26) (obj_new w (.cells #[.int .i64 x, .int .i64 y] 23))) (fun h => h)
        have o2 := c12.obj (obj_new (w.alloc (.cells #[.int .i64 x, .int .i64 y] 23)) (.cells #[.string q.1, .int .i64 q.2.1, .bool q.2.2] 26)) (fun h => h)
        rw [show (w.alloc (.cells #[.int .i64 x, .int .i64 y] 23)).heap.size = w.heap.size + 1 by simp] at o2
        have x0 := cell_of (off := 0) (v := .int .i64 x) o rfl
        have x1 := cell_of (off := 1) (v := .int .i64 y) o rfl
        have p0 := cell_of (off := 0) (v := .string q.1) o2 rfl
        clear c1 c2 c12 o o2 HC0
        go_wp2_with fail
        refine (HP _ _).out.mono ?_
        rintro e w3 ⟨u, rfl, ⟨a', cap', rfl⟩, c3⟩
        go_wp2_with fail
        go_ret
        exact ⟨rfl, (HC.out.trans c3 (fun _ h _ => h)).alloc _⟩
    · go_enter Try.func6, Try.ntmps6
      go_wp2_with fail
      refine (wakes_any _).mono ?_
      rintro e w1 ⟨rfl, c1⟩
      go_wp2_with fail
      refine (small_any ((HA.out.ch HC0).ch c1)).mono ?_
      rintro e w2 ⟨rfl, c2⟩
      have c12 := c1.trans c2 (fun _ h _ => h)
      have HC := Lib.hid (HC0.trans c12 (fun _ h _ => h))
      have o2 := c12.obj (obj_new (w.alloc (.cells #[.int .i64 x, .int .i64 y] 23)) (.cells #[.string q.1, .int .i64 q.2.1, .bool q.2.2] 26)) (fun h => h)
      rw [show (w.alloc (.cells #[.int .i64 x, .int .i64 y] 23)).heap.size = w.heap.size + 1 by simp] at o2
      have p0 := cell_of (off := 0) (v := .string q.1) o2 rfl
      clear c1 c2 c12 o2 HC0
      go_wp2_with fail
      go_ret
      exact ⟨rfl, HC.out⟩
  · have hs' : smallA A = false := by simpa using hs
    clear hs
    go_enter Try.func6, Try.ntmps6
    go_wp2_with fail
    refine (wakes_any _).mono ?_
    rintro e w1 ⟨rfl, c1⟩
    go_wp2_with fail
    refine (small_any ((HA.out.ch HC0).ch c1)).mono ?_
    rintro e w2 ⟨rfl, c2⟩
    go_wp2_with fail
    go_ret
    exact ⟨rfl, (HC0.trans c1 (fun _ h _ => h)).trans c2 (fun _ h _ => h)⟩
end Go.Proofs.Yteadclkpoikobaa
