/- What the reference's functions on pins do that write: Take, Free, Shut. Conditions: the lists lie in memory. -/
import Derived.Test.YtklnbfelcpnbeaaRp
import Derived.Laws.OwnMore
namespace Go.Proofs.Ytklnbfelcpnbeaa
open Go.RowKit Go.Maps Go.MuLone

theorem own_cap {w : World} {base : Nat} {e : TypeId} {n cap : Nat} {a : Option Addr} {xs : List Value} (h : w.ownsRow base e 1 (.slice a n cap) n xs) : a = none → cap = 0 := by
  rintro rfl
  rcases h.2 with ⟨hv, _⟩ | ⟨g, cap', cur, hv, _⟩
  · cases hv; rfl
  · cases hv
/-- append, in the text's order, of a list to a row of the call's own -/
theorem wpList_app {ops : Array Oper} {rest : List Oper} {o : Oper} {a : Act} {Q : Exit → Act → World → Prop} {W : World} (t e : TypeId) (ht : Try.prog.underlying t = some (.slice e)) {z : Value} {by_ : Nat} (hinfo : (Try.prog.info? e).map (fun i => (i.zero, i.size, i.bytes)) = some (some z, 1, by_)) (hz : z.cells.size = 1) (hby : by_ ≤ 16)
    (hgd : o.guard = none) (s x : Operand) (ho : o.op = .call { callee := .builtin .append, args := #[s, x], argTypes := #[t, t] }) (base : Nat) {v : Value} (n : Nat) (xs : List Value) (hs : a.eval s = v) (hown : W.ownsRow base e 1 v n xs)
    (al : Option Addr) (m capl : Nat) (news : List Value) (hx : a.eval x = .slice al m capl) (hag : Ag W al m 1 news) (hcap : al = none → capl = 0) (h1 : ∀ u ∈ news, u.oneCell' = true) (k : Nat) (hk : n + m = k) (hn : k ≤ 1000) (hbase : base ≤ W.heap.size)
    (h : ∀ a' c' w', w'.ownsRow base e 1 (.slice a' k c') k (xs ++ news) → W.grownBy w' v.ownBlock → wpList Try.prog ops Q rest (a.put o.dst (.slice a' k c')) w') :
    wpList Try.prog ops Q (o :: rest) a W := by
  obtain ⟨i0, hi0, hz0, hz1, hz2⟩ := info_parts hinfo
  subst hk
  have done : ∀ v' w', w'.ownsRow base e 1 v' (n + m) (xs ++ news) → W.grownBy w' v.ownBlock → wpList Try.prog ops Q rest (a.put o.dst v') w' := by
    intro v' w' hr hg
    obtain ⟨a', c', rfl⟩ := row_of _ hr
    exact h a' c' w' hr hg
  cases al with
  | none =>
    obtain rfl : m = 0 := by
      refine Nat.eq_zero_of_not_pos fun hp => ?_
      obtain ⟨g, o, e, _⟩ := hag.cells hp
      cases e
    obtain rfl := hcap rfl
    obtain rfl : news = [] := List.eq_nil_of_length_eq_zero (by simpa using hag.len)
    have hrun := run_append_owned_none (P := Try.prog) (w := W) base t o.type e i0 1 ht hi0 v n xs hown
    have hk := done v W (by simpa using hown) (World.grownBy.refl _ _)
    refine wpList_plain hgd fun K hK => ?_
    unfold Oper.wp
    simp [execOp, ho, resolve, invoke, builtin, hs, hx, hrun, Result.andThen]
    exact hK _ _ hk
  | some ad =>
    refine wpList_append_own W hgd s x t ho base e i0 z 1 by_ ht hi0 hz0 hz1 hz2 hz (by decide) v n xs hs hown ad m capl news hx hag.len (fun j u hj => ?_) h1 (by unfold maxLen; omega) (by have := Nat.mul_le_mul hn hby; omega) hbase (fun v' w' p q _ => done v' w' p q)
    have hp : 0 < m := by
      refine Nat.pos_of_ne_zero fun e => ?_
      have hl := hag.len
      subst e
      have : news = [] := List.eq_nil_of_length_eq_zero (by omega)
      subst this
      simp at hj
    obtain ⟨g, o', e, hg, hcc⟩ := hag.cells hp
    cases e
    have : (⟨g, o', none⟩ : Addr).add j = ⟨g, o' + j, none⟩ := by unfold Addr.add; split <;> simp_all
    rw [this]
    exact hcc j u hj
theorem info4 : (Try.prog.info? 4).map (fun i => (i.zero, i.size, i.bytes)) = some (some (.bool false), 1, 1) := by kernel_rfl

/-- the parameter's box, the result's cell -/
structure TK (w : World) (x y z : Value) (W : World) : Prop where
  box : W.heap[w.heap.size]? = some (.cells #[x, y, z] 40)
  slot : W.heap[w.heap.size + 1]? = some (.cells #[.slice none 0 0, .slice none 0 0, .slice none 0 0] 40)
  ch : Ch (fun _ => False) w W
section
variable {w : World} {x y z : Value} {W W' : World}
theorem TK.start (w : World) (x y z : Value) : TK w x y z ((w.alloc (.cells #[x, y, z] 40)).alloc (.cells #[.slice none 0 0, .slice none 0 0, .slice none 0 0] 40)) := by
  have o := obj_new (w.alloc (.cells #[x, y, z] 40)) (.cells #[.slice none 0 0, .slice none 0 0, .slice none 0 0] 40)
  rw [show (w.alloc (.cells #[x, y, z] 40)).heap.size = w.heap.size + 1 by simp] at o
  exact ⟨obj_alloc (obj_new w _), o, ((Ch.refl _ w).alloc _).alloc _⟩
theorem TK.size (h : TK w x y z W) : w.heap.size + 2 ≤ W.heap.size := lt_of_obj h.slot
theorem TK.turn (h : TK w x y z W) {T : Nat → Prop} (c : Ch T W W') (hT : ∀ j, T j → w.heap.size + 2 ≤ j) : TK w x y z W' :=
  ⟨c.obj h.box (fun t => by have := hT _ t; omega), c.obj h.slot (fun t => by have := hT _ t; omega), h.ch.trans c (fun j t hl => by have := hT _ t; omega)⟩
theorem TK.alloc (h : TK w x y z W) (o : Obj) : TK w x y z (W.alloc o) := h.turn ((Ch.refl (fun _ => False) W).alloc o) (fun _ h => h.elim)
theorem TK.grown {v : Value} {e : TypeId} {n : Nat} {xs : List Value} (h : TK w x y z W) (hown : W.ownsRow (w.heap.size + 2) e 1 v n xs) (hg : W.grownBy W' v.ownBlock) : TK w x y z W' :=
  h.turn ((Ch.refl (fun j => v.ownBlock = some j) W).grown hg (fun j e => .inl e)) (fun j e => (hown.lt j e).1)
theorem TK.set0 (h : TK w x y z W) (u : Value) : TK w u y z (W.setCell ⟨w.heap.size, 0, none⟩ u) := ⟨obj_setCell h.box, obj_setCell_other h.slot (by simp), h.ch.setCell (.inr (by simp)) u⟩
theorem TK.set1 (h : TK w x y z W) (u : Value) : TK w x u z (W.setCell ⟨w.heap.size, 1, none⟩ u) := ⟨obj_setCell h.box, obj_setCell_other h.slot (by simp), h.ch.setCell (.inr (by simp)) u⟩
theorem TK.set2 (h : TK w x y z W) (u : Value) : TK w x y u (W.setCell ⟨w.heap.size, 2, none⟩ u) := ⟨obj_setCell h.box, obj_setCell_other h.slot (by simp), h.ch.setCell (.inr (by simp)) u⟩
theorem TK.c0 (h : TK w x y z W) : W.cell? ⟨w.heap.size, 0, none⟩ = some x := cell_of h.box rfl
theorem TK.c1 (h : TK w x y z W) : W.cell? ⟨w.heap.size, 1, none⟩ = some y := cell_of h.box rfl
theorem TK.c2 (h : TK w x y z W) : W.cell? ⟨w.heap.size, 2, none⟩ = some z := cell_of h.box rfl
theorem TK.z0 (h : TK w x y z W) (o : Nat) : W.frozen? ⟨w.heap.size, o, none⟩ = false := frozen_of h.box
theorem TK.s0 (h : TK w x y z W) : W.cell? ⟨w.heap.size + 1, 0, none⟩ = some (.slice none 0 0) := cell_of h.slot rfl
theorem TK.s1 (h : TK w x y z W) : W.cell? ⟨w.heap.size + 1, 1, none⟩ = some (.slice none 0 0) := cell_of h.slot rfl
theorem TK.s2 (h : TK w x y z W) : W.cell? ⟨w.heap.size + 1, 2, none⟩ = some (.slice none 0 0) := cell_of h.slot rfl
theorem TK.zs (h : TK w x y z W) (o : Nat) : W.frozen? ⟨w.heap.size + 1, o, none⟩ = false := frozen_of h.slot
/-- the result is written -/
theorem TK.out (h : TK w x y z W) : let F := ((W.setCell ⟨w.heap.size + 1, 0, none⟩ x).setCell ⟨w.heap.size + 1, 1, none⟩ y).setCell ⟨w.heap.size + 1, 2, none⟩ z
    F.cell? ⟨w.heap.size + 1, 0, none⟩ = some x ∧ F.cell? ⟨w.heap.size + 1, 1, none⟩ = some y ∧ F.cell? ⟨w.heap.size + 1, 2, none⟩ = some z ∧ Ch (fun j => j = w.heap.size + 1) W F ∧ Ch (fun _ => False) w F := by
  intro F
  have o : F.heap[w.heap.size + 1]? = some (.cells #[x, y, z] 40) := obj_setCell (obj_setCell (obj_setCell h.slot))
  exact ⟨cell_of o rfl, cell_of o rfl, cell_of o rfl, (((Ch.refl (fun j => j = w.heap.size + 1) W).setCell (p := ⟨w.heap.size + 1, 0, none⟩) (.inl rfl) x).setCell (p := ⟨w.heap.size + 1, 1, none⟩) (.inl rfl) y).setCell (p := ⟨w.heap.size + 1, 2, none⟩) (.inl rfl) z, ((h.ch.setCell (.inr (by simp)) _).setCell (.inr (by simp)) _).setCell (.inr (by simp)) _⟩
end
theorem Sl.turn {w w' : World} {e : TypeId} {a : Option Addr} {n : Nat} {xs : List Value} (h : Sl w e a n xs) {T : Nat → Prop} (c : Ch T w w') (hT : ∀ j, T j → j < w.heap.size → ∃ cs e' z, w.heap[j]? = some (.cells cs e' z) ∧ e' ≠ e) : Sl w' e a n xs :=
  h.chT c fun g cur z hg _ ht => by
    obtain ⟨cs, e', z', hj, hne⟩ := hT g ht (lt_of_obj hg)
    rw [hg] at hj; cases hj; exact hne rfl
theorem Sl.row_grown {w w' : World} {e e' : TypeId} {a : Option Addr} {n : Nat} {xs : List Value} (h : Sl w e a n xs) {base n' : Nat} {v : Value} {ys : List Value} (hown : w.ownsRow base e' 1 v n' ys) (hg : w.grownBy w' v.ownBlock) (hne : e' ≠ e) : Sl w' e a n xs :=
  h.turn ((Ch.refl (fun j => v.ownBlock = some j) w).grown hg (fun j e => .inl e)) (fun j ht _ => by
    obtain ⟨_, cs, z, hj⟩ := own_obj hown ht
    exact ⟨cs, e', z, hj, hne⟩)
theorem Sl.setBox {w w0 : World} {e : TypeId} {a : Option Addr} {n : Nat} {xs : List Value} {x y z : Value} (h : Sl w e a n xs) (t : TK w0 x y z w) (o : Nat) (u : Value) (hne : e ≠ 40) : Sl (w.setCell ⟨w0.heap.size, o, none⟩ u) e a n xs :=
  h.turn ((Ch.refl (fun j => j = w0.heap.size) w).setCell (p := ⟨w0.heap.size, o, none⟩) (.inl rfl) u) (fun j ht _ => by subst ht; exact ⟨_, _, _, t.box, Ne.symm hne⟩)
theorem Sl.outBox {w w0 w' : World} {e : TypeId} {a : Option Addr} {n : Nat} {xs : List Value} {x y z : Value} (h : Sl w e a n xs) (t : TK w0 x y z w) (c : Ch (fun j => j = w0.heap.size + 1) w w') (hne : e ≠ 40) : Sl w' e a n xs :=
  h.turn c (fun j ht _ => by subst ht; exact ⟨_, _, _, t.slot, Ne.symm hne⟩)
/-- a fresh empty row -/
theorem own_empty {w0 w : World} {x y z : Value} (t : TK w0 x y z w) (e : TypeId) : (w.alloc (.cells #[] e)).ownsRow (w0.heap.size + 2) e 1 (.slice (some ⟨w.heap.size, 0, none⟩) 0 0) 0 [] :=
  World.ownsRow_lit w #[] 0 t.size (by unfold maxLen; omega) rfl
theorem ag_new (w : World) (u : Value) (e : TypeId) : Ag (w.alloc (.cells #[u] e)) (some ⟨w.heap.size, 0, none⟩) 1 1 [u] :=
  ⟨rfl, by unfold maxLen; omega, fun _ => ⟨w.heap.size, 0, rfl, by simp, fun j v hj => by rw [Nat.zero_add]; exact cell_of (obj_new w (.cells #[u] e)) (by simpa using hj)⟩⟩
theorem keysH_one (H : List Ho) : ∀ u ∈ keysH H, u.oneCell' = true := by intro u hu; obtain ⟨x, _, rfl⟩ := List.mem_map.1 hu; rfl
theorem freedH_one (H : List Ho) : ∀ u ∈ freedH H, u.oneCell' = true := by intro u hu; obtain ⟨x, _, rfl⟩ := List.mem_map.1 hu; rfl
theorem ints_one (q : IntKind) (L : List Int) : ∀ u ∈ ints q L, u.oneCell' = true := by intro u hu; obtain ⟨x, _, rfl⟩ := List.mem_map.1 hu; rfl
theorem keysH_push (H : List Ho) (x : Nat) (n : Int) (b : Bool) : keysH (H ++ [(x, n, b)]) = keysH H ++ [.int .i64 n] := by simp [keysH]
theorem freedH_push (H : List Ho) (x : Nat) (n : Int) (b : Bool) : freedH (H ++ [(x, n, b)]) = freedH H ++ [.bool b] := by simp [freedH]
/-- what the reference's writing functions leave -/
def RPost (w : World) (H : List Ho) (S : List Int) (v : Value) (e : Ending) (w' : World) : Prop :=
  ∃ a1 c1 a2 c2 a3 c3, e = .returned (.tuple #[refV a1 H.length c1 a2 c2 a3 S.length c3, v]) ∧ RV w' H S a1 c1 a2 c2 a3 c3 ∧ Ch (fun _ => False) w w'

set_option maxRecDepth 100000 in
set_option maxHeartbeats 2000000 in
theorem rtake_yes {H : List Ho} {S : List Int} {a1 a2 a3 : Option Addr} {c1 c2 c3 : Nat} {n : Int} {w : World} (h : RV w H S a1 c1 a2 c2 a3 c3) (hlen : H.length < 900) (hs : n ∉ S) (x : Nat) :
    Calls Try.prog 15 #[refV a1 H.length c1 a2 c2 a3 S.length c3, .int .i64 n] w (RPost w (H ++ [(x, n, false)]) S (.int .i64 0)) := by
  have HR := Lib.hid h
  have T0 := TK.start w (.slice a1 H.length c1) (.slice a2 H.length c2) (.slice a3 S.length c3)
  have HT0 := Lib.hid T0
  have HI := fun W (c : Ch (fun _ => False) w W) => in_any (cap := c3) (n := n) (h.shut.ch c)
  rw [decide_eq_false hs] at HI
  have HIN := Lib.hid HI
  clear h hs HI T0
  go_enter Try.func15, Try.ntmps15
  go_wp2_with fail
  refine (HIN.out _ HT0.out.ch).mono ?_
  rintro e w1 ⟨rfl, rfl⟩
  have e0 : ((w.alloc (.cells #[.slice a1 H.length c1, .slice a2 H.length c2, .slice a3 S.length c3] 40)).alloc (.cells #[.slice none 0 0, .slice none 0 0, .slice none 0 0] 40)).heap.size = w.heap.size + 1 + 1 := by simp
  have own1 := own_empty HT0.out 2
  rw [e0] at own1
  have OW1 := Lib.hid own1
  clear own1 e0
  go_wp2_with (at_builtin; refine wpList_app 37 2 Try.underlying37 info2 rfl (by decide) rfl (.tmp 11) (.tmp 13) rfl (w.heap.size + 2) 0 [] rfl OW1.out a1 H.length c1 (keysH H) rfl (HR.out.keys.ch (HT0.out.alloc _).ch).ag HR.out.n1 (keysH_one H) H.length (Nat.zero_add _) (by omega) (HT0.out.alloc _).size ?_)
  intro b1 d1 w2 o2 g2
  have T2 := Lib.hid ((HT0.out.alloc _).grown OW1.out g2)
  have O2 := Lib.hid o2
  clear o2 g2 OW1
  go_wp2_with (at_builtin; refine wpList_app 37 2 Try.underlying37 info2 rfl (by decide) rfl (.tmp 14) (.tmp 16) rfl (w.heap.size + 2) H.length (keysH H) rfl (O2.out.alloc _) (some ⟨w2.heap.size, 0, none⟩) 1 1 [.int .i64 n] rfl (ag_new _ _ _) (by simp) (by simp [Value.oneCell']) (H.length + 1) rfl (by omega) (T2.out.alloc _).size ?_)
  intro b2 d2 w3 o3 g3
  have t3 := (T2.out.alloc _).grown (O2.out.alloc _) g3
  have s3 := Sl.of_row o3
  have N2 := Lib.hid (own_cap o3)
  have k0 := t3.c0
  have k1 := ((t3.set0 (.slice b2 (H.length + 1) d2)).alloc (.cells #[] 4)).c1
  have f0 := t3.z0 0
  have T4 := Lib.hid (t3.set0 (.slice b2 (H.length + 1) d2))
  have S4 := Lib.hid (s3.setBox t3 0 (.slice b2 (H.length + 1) d2) (by decide))
  have own4 := own_empty (t3.set0 (.slice b2 (H.length + 1) d2)) 4
  rw [show (w3.setCell ⟨w.heap.size, 0, none⟩ (.slice b2 (H.length + 1) d2)).heap.size = w3.heap.size by simp] at own4
  have OW4 := Lib.hid own4
  clear o3 g3 t3 s3 T2 O2 own4
  go_wp2_with (at_builtin; refine wpList_app 38 4 Try.underlying38 info4 rfl (by decide) rfl (.tmp 19) (.tmp 21) rfl (w.heap.size + 2) 0 [] rfl OW4.out a2 H.length c2 (freedH H) rfl (HR.out.freed.ch (T4.out.alloc _).ch).ag HR.out.n2 (freedH_one H) H.length (Nat.zero_add _) (by omega) (T4.out.alloc _).size ?_)
  intro b3 d3 w4 o4 g4
  have T5 := Lib.hid ((T4.out.alloc _).grown OW4.out g4)
  have S5 := Lib.hid ((S4.out.ch ((Ch.refl _ _).alloc _)).row_grown OW4.out g4 (by decide))
  have O4 := Lib.hid o4
  clear o4 g4 OW4 T4 S4
  go_wp2_with (at_builtin; refine wpList_app 38 4 Try.underlying38 info4 rfl (by decide) rfl (.tmp 22) (.tmp 23) rfl (w.heap.size + 2) H.length (freedH H) rfl (O4.out.alloc _) (some ⟨w4.heap.size, 0, none⟩) 1 1 [.bool false] rfl (ag_new _ _ _) (by simp) (by simp [Value.oneCell']) (H.length + 1) rfl (by omega) (T5.out.alloc _).size ?_)
  intro b4 d4 w5 o5 g5
  have t5 := (T5.out.alloc _).grown (O4.out.alloc _) g5
  have s5 := (S5.out.ch ((Ch.refl _ _).alloc _)).row_grown (O4.out.alloc _) g5 (by decide)
  have r5 := Sl.of_row o5
  have N4 := Lib.hid (own_cap o5)
  have t6 := t5.set1 (.slice b4 (H.length + 1) d4)
  have s6 := s5.setBox t5 1 (.slice b4 (H.length + 1) d4) (by decide)
  have r6 := r5.setBox t5 1 (.slice b4 (H.length + 1) d4) (by decide)
  have k2 := t5.c1
  have f1 := t5.z0 1
  have m0 := t6.c0
  have m1 := t6.c1
  have m2 := t6.c2
  have p0 := t6.s0
  have p1 := t6.s1
  have p2 := t6.s2
  have q0 := t6.zs 0
  have q1 := t6.zs 1
  have q2 := t6.zs 2
  obtain ⟨u0, u1, u2, u3, u4⟩ := t6.out
  have U3 := Lib.hid u3
  have U4 := Lib.hid u4
  have T6 := Lib.hid t6
  have S6 := Lib.hid s6
  have R6 := Lib.hid r6
  clear o5 g5 t5 s5 r5 t6 s6 r6 T5 S5 O4 u3 u4
  go_wp2_with fail
  refine bodyPost_ret (v := .tuple #[refV b2 (H.length + 1) d2 b4 d4 a3 S.length c3, .int .i64 0]) (by simp [results, Try.results15, go_sem, u0, u1, u2]) rfl ⟨b2, d2, b4, d4, a3, c3, by rw [List.length_append]; rfl, ⟨N2.out, N4.out, HR.out.n3, ?_, ?_, HR.out.shut.ch U4.out⟩, U4.out⟩
  · rw [keysH_push, List.length_append]; exact S6.out.outBox T6.out U3.out (by decide)
  · rw [freedH_push, List.length_append]; exact R6.out.outBox T6.out U3.out (by decide)

set_option maxRecDepth 100000 in
set_option maxHeartbeats 2000000 in
theorem rtake_no {H : List Ho} {S : List Int} {a1 a2 a3 : Option Addr} {c1 c2 c3 : Nat} {n : Int} {w : World} (h : RV w H S a1 c1 a2 c2 a3 c3) (hs : n ∈ S) :
    Calls Try.prog 15 #[refV a1 H.length c1 a2 c2 a3 S.length c3, .int .i64 n] w (RPost w H S (.int .i64 15)) := by
  have HR := Lib.hid h
  have t0 := TK.start w (.slice a1 H.length c1) (.slice a2 H.length c2) (.slice a3 S.length c3)
  have HT0 := Lib.hid t0
  have HI := fun W (c : Ch (fun _ => False) w W) => in_any (cap := c3) (n := n) (h.shut.ch c)
  rw [decide_eq_true hs] at HI
  have HIN := Lib.hid HI
  have m0 := t0.c0
  have m1 := t0.c1
  have m2 := t0.c2
  have p0 := t0.s0
  have p1 := t0.s1
  have p2 := t0.s2
  have q0 := t0.zs 0
  have q1 := t0.zs 1
  have q2 := t0.zs 2
  clear h hs HI t0
  go_enter Try.func15, Try.ntmps15
  go_wp2_with fail
  refine (HIN.out _ HT0.out.ch).mono ?_
  rintro e w1 ⟨rfl, rfl⟩
  go_wp2_with fail
  exact bodyPost_ret (v := .tuple #[refV a1 H.length c1 a2 c2 a3 S.length c3, .int .i64 15]) (by simp [results, Try.results15, go_sem]) rfl ⟨a1, c1, a2, c2, a3, c3, rfl, HR.out.ch (((Ch.refl (fun _ => False) w).alloc _).alloc _), ((Ch.refl (fun _ => False) w).alloc _).alloc _⟩

set_option maxRecDepth 100000 in
set_option maxHeartbeats 2000000 in
theorem rfree_no {H : List Ho} {S : List Int} {a1 a2 a3 : Option Addr} {c1 c2 c3 : Nat} {i : Nat} {w : World} (h : RV w H S a1 c1 a2 c2 a3 c3) (hi : i < H.length) (hf : H[i].2.2 = true) (hlen : H.length < 900) :
    Calls Try.prog 17 #[refV a1 H.length c1 a2 c2 a3 S.length c3, .int .i64 i] w (RPost w H S (.bool false)) := by
  have HR := Lib.hid h
  have t0 := TK.start w (.slice a1 H.length c1) (.slice a2 H.length c2) (.slice a3 S.length c3)
  obtain ⟨g, e1, hg, hcells⟩ := (h.freed.ch t0.ch).cells (by omega)
  have d0 := hcells _ _ (freedH_get H i hi)
  rw [hf] at d0
  subst e1
  have m0 := t0.c0
  have m1 := t0.c1
  have m2 := t0.c2
  have p0 := t0.s0
  have p1 := t0.s1
  have p2 := t0.s2
  have q0 := t0.zs 0
  have q1 := t0.zs 1
  have q2 := t0.zs 2
  clear h hf t0 hcells
  go_enter Try.func17, Try.ntmps17
  go_wp2_with fail
  exact bodyPost_ret (v := .tuple #[refV a1 H.length c1 (some ⟨g, 0, none⟩) c2 a3 S.length c3, .bool false]) (by simp [results, Try.results17, go_sem]) rfl ⟨a1, c1, _, c2, a3, c3, rfl, HR.out.ch (((Ch.refl (fun _ => False) w).alloc _).alloc _), ((Ch.refl (fun _ => False) w).alloc _).alloc _⟩

set_option maxRecDepth 100000 in
set_option maxHeartbeats 2000000 in
theorem rfree_yes {H : List Ho} {S : List Int} {a1 a2 a3 : Option Addr} {c1 c2 c3 : Nat} {i : Nat} {w : World} (h : RV w H S a1 c1 a2 c2 a3 c3) (hi : i < H.length) (hf : H[i].2.2 = false) (hlen : H.length < 900) :
    Calls Try.prog 17 #[refV a1 H.length c1 a2 c2 a3 S.length c3, .int .i64 i] w (RPost w (H.set i (H[i].1, H[i].2.1, true)) S (.bool true)) := by
  have HR := Lib.hid h
  have t0 := TK.start w (.slice a1 H.length c1) (.slice a2 H.length c2) (.slice a3 S.length c3)
  have HT0 := Lib.hid t0
  obtain ⟨g, e1, hg, hcells⟩ := (h.freed.ch t0.ch).cells (by omega)
  have d0 := hcells _ _ (freedH_get H i hi)
  rw [hf] at d0
  subst e1
  have e0 : ((w.alloc (.cells #[.slice a1 H.length c1, .slice (some ⟨g, 0, none⟩) H.length c2, .slice a3 S.length c3] 40)).alloc (.cells #[.slice none 0 0, .slice none 0 0, .slice none 0 0] 40)).heap.size = w.heap.size + 1 + 1 := by simp
  have own1 := own_empty t0 4
  rw [e0] at own1
  have OW1 := Lib.hid own1
  clear h hf t0 hcells own1 e0
  go_enter Try.func17, Try.ntmps17
  go_wp2_with (at_builtin; refine wpList_app 38 4 Try.underlying38 info4 rfl (by decide) rfl (.tmp 13) (.tmp 15) rfl (w.heap.size + 2) 0 [] rfl OW1.out (some ⟨g, 0, none⟩) H.length c2 (freedH H) rfl (HR.out.freed.ch (HT0.out.alloc _).ch).ag (by simp) (freedH_one H) H.length (Nat.zero_add _) (by omega) (HT0.out.alloc _).size ?_)
  intro b1 d1 w2 o2 g2
  have t2 := (HT0.out.alloc _).grown OW1.out g2
  have hb1 : ∃ g1, b1 = some ⟨g1, 0, none⟩ := by
    rcases o2.2 with ⟨hv, hz⟩ | ⟨g1, cap', cur, hv, _⟩
    · omega
    · cases hv; exact ⟨g1, rfl⟩
  obtain ⟨g1, rfl⟩ := hb1
  have hx := (o2.cellAt i (by omega)).trans (freedH_get H i hi)
  have hz := o2.frozenAt i
  have o3 := (o2.stored i (.bool true)).1
  have hge := (o2.lt g1 rfl).1
  have t3 := t2.turn ((Ch.refl (fun j => j = g1) w2).setCell (p := ⟨g1, i, none⟩) (.inl rfl) (.bool true)) (fun j hj => by subst hj; exact hge)
  have r3 := Sl.of_row o3
  have t4 := t3.set1 (.slice (some ⟨g1, 0, none⟩) H.length d1)
  have r4 := r3.setBox t3 1 (.slice (some ⟨g1, 0, none⟩) H.length d1) (by decide)
  have k2 := t3.c1
  have f1 := t3.z0 1
  have m0 := t4.c0
  have m1 := t4.c1
  have m2 := t4.c2
  have p0 := t4.s0
  have p1 := t4.s1
  have p2 := t4.s2
  have q0 := t4.zs 0
  have q1 := t4.zs 1
  have q2 := t4.zs 2
  obtain ⟨u0, u1, u2, u3, u4⟩ := t4.out
  have U3 := Lib.hid u3
  have U4 := Lib.hid u4
  have T4 := Lib.hid t4
  have R4 := Lib.hid r4
  clear o2 g2 t2 o3 t3 r3 t4 r4 u3 u4 hge OW1
  go_wp2_with fail
  refine bodyPost_ret (v := .tuple #[refV a1 H.length c1 (some ⟨g1, 0, none⟩) d1 a3 S.length c3, .bool true]) (by simp [results, Try.results17, go_sem, u0, u1, u2]) rfl ⟨a1, c1, _, d1, a3, c3, by rw [List.length_set], ⟨HR.out.n1, by simp, HR.out.n3, ?_, ?_, HR.out.shut.ch U4.out⟩, U4.out⟩
  · have e : keysH (H.set i (H[i].1, H[i].2.1, true)) = keysH H := by
      unfold keysH
      refine List.ext_getElem (by simp) (fun j h1 h2 => ?_)
      simp only [List.getElem_map]
      by_cases e : i = j
      · subst e; simp
      · rw [List.getElem_set_ne e]
    rw [e, List.length_set]
    exact HR.out.keys.ch U4.out
  · have e : freedH (H.set i (H[i].1, H[i].2.1, true)) = ([] ++ freedH H).set i (.bool true) := by
      unfold freedH; rw [List.nil_append, List.map_set]
    rw [e, List.length_set]
    exact R4.out.outBox T4.out U3.out (by decide)

theorem ints_push (q : IntKind) (S : List Int) (n : Int) : ints q (S ++ [n]) = ints q S ++ [.int q n] := by simp [ints]
theorem TK.ch' {w : World} {x y z : Value} {W W' : World} (h : TK w x y z W) (c : Ch (fun _ => False) W W') : TK w x y z W' := h.turn c (fun _ h => h.elim)

set_option maxRecDepth 100000 in
set_option maxHeartbeats 2000000 in
theorem rshut_no {H : List Ho} {S : List Int} {a1 a2 a3 : Option Addr} {c1 c2 c3 : Nat} {n : Int} {w : World} (h : RV w H S a1 c1 a2 c2 a3 c3) (hlen : H.length < 900) (hp : 0 < cnt n H) :
    Calls Try.prog 18 #[refV a1 H.length c1 a2 c2 a3 S.length c3, .int .i64 n] w (RPost w H S (.bool false)) := by
  have HR := Lib.hid h
  have HT0 := Lib.hid (TK.start w (.slice a1 H.length c1) (.slice a2 H.length c2) (.slice a3 S.length c3))
  clear h
  go_enter Try.func18, Try.ntmps18
  go_wp2_with fail
  refine (rheld_any (HR.out.ch HT0.out.ch) (by omega)).mono ?_
  rintro e w1 ⟨rfl, ch1⟩
  have t1 := HT0.out.ch' ch1
  have m0 := t1.c0
  have m1 := t1.c1
  have m2 := t1.c2
  have p0 := t1.s0
  have p1 := t1.s1
  have p2 := t1.s2
  have q0 := t1.zs 0
  have q1 := t1.zs 1
  have q2 := t1.zs 2
  obtain ⟨u0, u1, u2, u3, u4⟩ := t1.out
  have U4 := Lib.hid u4
  clear t1 u3 u4 ch1
  go_wp2_with fail
  exact bodyPost_ret (v := .tuple #[refV a1 H.length c1 a2 c2 a3 S.length c3, .bool false]) (by simp [results, Try.results18, go_sem, u0, u1, u2]) rfl ⟨a1, c1, a2, c2, a3, c3, rfl, HR.out.ch U4.out, U4.out⟩

set_option maxRecDepth 100000 in
set_option maxHeartbeats 2000000 in
theorem rshut_in {H : List Ho} {S : List Int} {a1 a2 a3 : Option Addr} {c1 c2 c3 : Nat} {n : Int} {w : World} (h : RV w H S a1 c1 a2 c2 a3 c3) (hlen : H.length < 900) (hp : cnt n H = 0) (hs : n ∈ S) :
    Calls Try.prog 18 #[refV a1 H.length c1 a2 c2 a3 S.length c3, .int .i64 n] w (RPost w H S (.bool true)) := by
  have HR := Lib.hid h
  have HT0 := Lib.hid (TK.start w (.slice a1 H.length c1) (.slice a2 H.length c2) (.slice a3 S.length c3))
  have HI := fun W (c : Ch (fun _ => False) w W) => in_any (cap := c3) (n := n) (h.shut.ch c)
  rw [decide_eq_true hs] at HI
  have HIN := Lib.hid HI
  clear h hs HI
  go_enter Try.func18, Try.ntmps18
  go_wp2_with fail
  refine (rheld_any (HR.out.ch HT0.out.ch) (by omega)).mono ?_
  rintro e w1 ⟨rfl, ch1⟩
  rw [hp]
  have t1 := HT0.out.ch' ch1
  have m0 := t1.c0
  have m1 := t1.c1
  have m2 := t1.c2
  have p0 := t1.s0
  have p1 := t1.s1
  have p2 := t1.s2
  have q0 := t1.zs 0
  have q1 := t1.zs 1
  have q2 := t1.zs 2
  obtain ⟨u0, u1, u2, u3, u4⟩ := t1.out
  have U4 := Lib.hid u4
  have T1 := Lib.hid t1
  clear t1 u3 u4 ch1
  go_wp2_with fail
  refine (HIN.out _ T1.out.ch).mono ?_
  rintro e w2 ⟨rfl, rfl⟩
  go_wp2_with fail
  exact bodyPost_ret (v := .tuple #[refV a1 H.length c1 a2 c2 a3 S.length c3, .bool true]) (by simp [results, Try.results18, go_sem, u0, u1, u2]) rfl ⟨a1, c1, a2, c2, a3, c3, rfl, HR.out.ch U4.out, U4.out⟩

set_option maxRecDepth 100000 in
set_option maxHeartbeats 2000000 in
theorem rshut_yes {H : List Ho} {S : List Int} {a1 a2 a3 : Option Addr} {c1 c2 c3 : Nat} {n : Int} {w : World} (h : RV w H S a1 c1 a2 c2 a3 c3) (hlen : H.length < 900) (hlen2 : S.length < 900) (hp : cnt n H = 0) (hs : n ∉ S) :
    Calls Try.prog 18 #[refV a1 H.length c1 a2 c2 a3 S.length c3, .int .i64 n] w (RPost w H (S ++ [n]) (.bool true)) := by
  have HR := Lib.hid h
  have HT0 := Lib.hid (TK.start w (.slice a1 H.length c1) (.slice a2 H.length c2) (.slice a3 S.length c3))
  have HI := fun W (c : Ch (fun _ => False) w W) => in_any (cap := c3) (n := n) (h.shut.ch c)
  rw [decide_eq_false hs] at HI
  have HIN := Lib.hid HI
  clear h hs HI
  go_enter Try.func18, Try.ntmps18
  go_wp2_with fail
  refine (rheld_any (HR.out.ch HT0.out.ch) (by omega)).mono ?_
  rintro e w1 ⟨rfl, ch1⟩
  rw [hp]
  have t1 := HT0.out.ch' ch1
  have T1 := Lib.hid t1
  have m2 := t1.c2
  have m2' := (t1.alloc (.cells #[] 2)).c2
  have OW1 := Lib.hid (own_empty t1 2)
  clear t1 ch1 HT0
  go_wp2_with fail
  refine (HIN.out _ T1.out.ch).mono ?_
  rintro e w2 ⟨rfl, rfl⟩
  go_wp2_with (at_builtin; refine wpList_app 37 2 Try.underlying37 info2 rfl (by decide) rfl (.tmp 16) (.tmp 18) rfl (w.heap.size + 2) 0 [] rfl OW1.out a3 S.length c3 (ints .i64 S) rfl (HR.out.shut.ch (T1.out.alloc _).ch).ag HR.out.n3 (ints_one _ S) S.length (Nat.zero_add _) (by omega) (T1.out.alloc _).size ?_)
  intro b1 d1 w2 o2 g2
  have T2 := Lib.hid ((T1.out.alloc _).grown OW1.out g2)
  have O2 := Lib.hid o2
  clear o2 g2 OW1
  go_wp2_with (at_builtin; refine wpList_app 37 2 Try.underlying37 info2 rfl (by decide) rfl (.tmp 19) (.tmp 21) rfl (w.heap.size + 2) S.length (ints .i64 S) rfl (O2.out.alloc _) (some ⟨w2.heap.size, 0, none⟩) 1 1 [.int .i64 n] rfl (ag_new _ _ _) (by simp) (by simp [Value.oneCell']) (S.length + 1) rfl (by omega) (T2.out.alloc _).size ?_)
  intro b2 d2 w3 o3 g3
  have t3 := (T2.out.alloc _).grown (O2.out.alloc _) g3
  have r3 := Sl.of_row o3
  have N2 := Lib.hid (own_cap o3)
  have t4 := t3.set2 (.slice b2 (S.length + 1) d2)
  have r4 := r3.setBox t3 2 (.slice b2 (S.length + 1) d2) (by decide)
  have k2 := t3.c2
  have f1 := t3.z0 2
  have m0 := t4.c0
  have m1 := t4.c1
  have m3 := t4.c2
  have p0 := t4.s0
  have p1 := t4.s1
  have p2 := t4.s2
  have q0 := t4.zs 0
  have q1 := t4.zs 1
  have q2 := t4.zs 2
  obtain ⟨u0, u1, u2, u3, u4⟩ := t4.out
  have U3 := Lib.hid u3
  have U4 := Lib.hid u4
  have T4 := Lib.hid t4
  have R4 := Lib.hid r4
  clear o3 g3 t3 r3 t4 r4 u3 u4 T2 O2 m2 m2'
  go_wp2_with fail
  refine bodyPost_ret (v := .tuple #[refV a1 H.length c1 a2 c2 b2 (S.length + 1) d2, .bool true]) (by simp [results, Try.results18, go_sem, u0, u1, u2]) rfl ⟨a1, c1, a2, c2, b2, d2, by rw [List.length_append]; rfl, ⟨HR.out.n1, HR.out.n2, N2.out, HR.out.keys.ch U4.out, HR.out.freed.ch U4.out, ?_⟩, U4.out⟩
  rw [ints_push, List.length_append]
  exact R4.out.outBox T4.out U3.out (by decide)
end Go.Proofs.Ytklnbfelcpnbeaa
