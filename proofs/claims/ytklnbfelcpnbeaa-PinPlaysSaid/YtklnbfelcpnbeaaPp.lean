/- Whatever is taken, freed and shut, Pins tell what the document says: the state of PinPlays' loop. Conditions: the acts lie in memory. -/
import Derived.Test.YtklnbfelcpnbeaaRa
namespace Go.Proofs.Ytklnbfelcpnbeaa
open Go.RowKit Go.Maps Go.MuLone

abbrev shS (S : List Int) : Int → Bool := fun n => decide (n ∈ S)
theorem shS_push (S : List Int) (n : Int) : upd (shS S) n true = shS (S ++ [n]) := by
  funext k
  by_cases e : k = n
  · subst e; rw [upd_same]; simp [shS]
  · rw [upd_other _ _ e]; simp [shS, e]
theorem shS_in {S : List Int} {n : Int} (h : n ∈ S) : upd (shS S) n true = shS S := by
  funext k
  by_cases e : k = n
  · subst e; rw [upd_same]; simp [shS, h]
  · rw [upd_other _ _ e]
/-- the reference's pins in the box X -/
structure BX (w1 : World) (X : Nat) (H : List Ho) (S : List Int) (a1 : Option Addr) (c1 : Nat) (a2 : Option Addr) (c2 : Nat) (a3 : Option Addr) (c3 : Nat) (W : World) : Prop where
  box : W.heap[X]? = some (.cells #[.slice a1 H.length c1, .slice a2 H.length c2, .slice a3 S.length c3] 40)
  rv : RV W H S a1 c1 a2 c2 a3 c3
  far : w1.heap.size ≤ X
section
variable {w1 : World} {X p m N : Nat} {H : List Ho} {S : List Int} {a1 a2 a3 : Option Addr} {c1 c2 c3 : Nat} {v : Value} {W W' : World} {sh : Int → Bool}
theorem BX.ch (h : BX w1 X H S a1 c1 a2 c2 a3 c3 W) (c : Ch (fun _ => False) W W') : BX w1 X H S a1 c1 a2 c2 a3 c3 W' := ⟨c.obj h.box (fun h => h), h.rv.ch c, h.far⟩
theorem BX.kp (h : BX w1 X H S a1 c1 a2 c2 a3 c3 W) (k : Kp W W') : BX w1 X H S a1 c1 a2 c2 a3 c3 W' := ⟨k.block _ _ _ _ h.box (by decide) (by decide) (by decide), h.rv.kp k, h.far⟩
theorem SK.kp {A : List Ho} (h : SK w1 W p m sh A N W') : Kp W W' := by obtain ⟨K, h⟩ := h; exact h.keep
/-- the holds' slice grows: the box stays -/
theorem BX.grown (h : BX w1 X H S a1 c1 a2 c2 a3 c3 W) {base n : Nat} {u : Value} {xs : List Value} (own : W.ownsRow base 26 1 u n xs) (g : W.grownBy W' u.ownBlock) : BX w1 X H S a1 c1 a2 c2 a3 c3 W' := by
  have ne : ∀ {j : Nat} {cs : Array Value} {e : TypeId} {z : Nat × Nat}, W.heap[j]? = some (.cells cs e z) → e ≠ 26 → ¬ (u.ownBlock = some j) := fun hj he ht => by
    obtain ⟨_, cs', z', h'⟩ := own_obj own ht
    rw [hj] at h'; cases h'; exact he rfl
  have c : Ch (fun j => u.ownBlock = some j) W W' := (Ch.refl _ W).grown g (fun j e => .inl e)
  exact ⟨c.obj h.box (ne h.box (by decide)), ⟨h.rv.n1, h.rv.n2, h.rv.n3, h.rv.keys.row_grown own g (by decide), h.rv.freed.row_grown own g (by decide), h.rv.shut.row_grown own g (by decide)⟩, h.far⟩
/-- the reference's result is written into the box -/
theorem BX.stored {H' : List Ho} {S' : List Int} {b1 b2 b3 : Option Addr} {d1 d2 d3 : Nat} {x y z : Value} (far : w1.heap.size ≤ X) (hx : W.heap[X]? = some (.cells #[x, y, z] 40)) (r : RV W H' S' b1 d1 b2 d2 b3 d3) :
    let F := ((W.setCell ⟨X, 0, none⟩ (.slice b1 H'.length d1)).setCell ⟨X, 1, none⟩ (.slice b2 H'.length d2)).setCell ⟨X, 2, none⟩ (.slice b3 S'.length d3)
    BX w1 X H' S' b1 d1 b2 d2 b3 d3 F ∧ Ch (fun j => j = X) W F := by
  intro F
  have c : Ch (fun j => j = X) W F := (((Ch.refl (fun j => j = X) W).setCell (p := ⟨X, 0, none⟩) (.inl rfl) _).setCell (p := ⟨X, 1, none⟩) (.inl rfl) _).setCell (p := ⟨X, 2, none⟩) (.inl rfl) _
  have t : ∀ e : TypeId, e ≠ 40 → ∀ j, j = X → j < W.heap.size → ∃ cs e' z, W.heap[j]? = some (.cells cs e' z) ∧ e' ≠ e := fun e he j hj _ => by subst hj; exact ⟨_, _, _, hx, Ne.symm he⟩
  exact ⟨⟨obj_setCell (obj_setCell (obj_setCell hx)), ⟨r.n1, r.n2, r.n3, r.keys.turn c (t 2 (by decide)), r.freed.turn c (t 4 (by decide)), r.shut.turn c (t 2 (by decide))⟩, far⟩, c⟩
theorem SG.box {H0 : List Ho} (h : SG w1 p m sh H0 H N v W) (far : w1.heap.size ≤ X) {x : Array Value} (hx : W.heap[X]? = some (.cells x 40)) (c : Ch (fun j => j = X) W W') : SG w1 p m sh H0 H N v W' := by
  obtain ⟨K, k⟩ := h.st
  refine ⟨⟨K, ST.other k c (fun j hj _ => by subst hj; exact ⟨far, x, 40, _, hx, by decide, by decide, by decide⟩)⟩, c.ownsRow h.own (fun j hj hjX => ?_)⟩
  obtain ⟨_, cs, z, h'⟩ := own_obj h.own hj
  rw [hjX, hx] at h'; cases h'
end
end Go.Proofs.Ytklnbfelcpnbeaa
