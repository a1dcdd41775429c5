/- Frames: what a call may have turned in memory, as a set of blocks; facts on blocks carried over such a frame. Conditions: none. -/
import Derived.WalkKit
import Derived.Maps.OwnSet
import Derived.Deep.QuietTactic
import Derived.BigQuiet
namespace Go.Proofs.Ytiagnkmiibaacaa
open Go.RowKit Go.Maps

/-- w' is w but for the blocks in S (and new blocks, and draws). -/
structure Ch (S : Nat → Prop) (w w' : World) : Prop where
  os : w'.os = w.os
  tape : w'.tape = w.tape
  output : w'.output = w.output
  size : w.heap.size ≤ w'.heap.size
  block : ∀ k, k < w.heap.size → ¬ S k → w'.heap[k]? = w.heap[k]?

variable {S T : Nat → Prop} {w w' w'' : World}

theorem Ch.refl (S : Nat → Prop) (w : World) : Ch S w w := ⟨rfl, rfl, rfl, Nat.le_refl _, fun _ _ _ => rfl⟩
theorem Ch.trans (h : Ch S w w') (k : Ch T w' w'') (hT : ∀ b, T b → b < w.heap.size → S b) : Ch S w w'' :=
  ⟨k.os.trans h.os, k.tape.trans h.tape, k.output.trans h.output, Nat.le_trans h.size k.size,
   fun i hi hn => (k.block i (Nat.lt_of_lt_of_le hi h.size) (fun ht => hn (hT i ht hi))).trans (h.block i hi hn)⟩
theorem Ch.mono (h : Ch S w w') (hS : ∀ b, S b → b < w.heap.size → T b) : Ch T w w' :=
  ⟨h.os, h.tape, h.output, h.size, fun i hi hn => h.block i hi (fun hs => hn (hS i hs hi))⟩
theorem Ch.drew (h : Ch S w w') : Ch S w w'.drew := ⟨h.os, h.tape, h.output, h.size, h.block⟩
theorem Ch.alloc (h : Ch S w w') (o : Obj) : Ch S w (w'.alloc o) :=
  ⟨h.os, h.tape, h.output, by have := h.size; simp; omega, fun k hk hn => (Below.heap_alloc _ _ _ (Nat.lt_of_lt_of_le hk h.size)).trans (h.block k hk hn)⟩
theorem Ch.setCell (h : Ch S w w') {p : Addr} (hp : S p.block ∨ w.heap.size ≤ p.block) (u : Value) : Ch S w (w'.setCell p u) :=
  ⟨h.os, h.tape, h.output, by have := h.size; simpa [World.setCell] using this, fun k hk hn => (Below.heap_setCell _ _ _ _ (by rintro rfl; rcases hp with hp | hp; exact hn hp; omega)).trans (h.block k hk hn)⟩
theorem Ch.grown {row : Option Nat} (h : Ch S w w') (hg : w'.grownBy w'' row) (hr : ∀ k, row = some k → S k ∨ w.heap.size ≤ k) : Ch S w w'' :=
  ⟨hg.os.trans h.os, hg.tape.trans h.tape, hg.output.trans h.output, Nat.le_trans h.size hg.size,
   fun k hk hn => (hg.block k (Nat.lt_of_lt_of_le hk h.size) (fun e => by rcases hr k e.symm with h' | h'; exact hn h'; omega)).trans (h.block k hk hn)⟩
theorem Ch.of_below {B : Nat} (h : Below B w w') (hB : B = w.heap.size) : Ch (fun _ => False) w w' :=
  ⟨h.os, h.tape, h.output, h.size, fun k hk _ => h.block k (by omega)⟩
theorem Ch.step_below {B : Nat} (h : Ch S w w') (hb : Below B w' w'') (hB : w.heap.size ≤ B) : Ch S w w'' :=
  ⟨hb.os.trans h.os, hb.tape.trans h.tape, hb.output.trans h.output, Nat.le_trans h.size hb.size,
   fun k hk hn => (hb.block k (by omega)).trans (h.block k hk hn)⟩
theorem Ch.below {B : Nat} (h : Ch S w w') (hS : ∀ b, S b → B ≤ b) (hB : B ≤ w.heap.size) : Below B w w' :=
  ⟨h.os, h.tape, h.output, h.size, fun k hk => h.block k (by omega) (fun hs => by have := hS k hs; omega)⟩
theorem Ch.cell (h : Ch S w w') {p : Addr} (hp : p.block < w.heap.size) (hn : ¬ S p.block) : w'.cell? p = w.cell? p := World.cell?_of_block (w := w) (h.block p.block hp hn)
theorem Ch.frozen (h : Ch S w w') {p : Addr} (hp : p.block < w.heap.size) (hn : ¬ S p.block) : w'.frozen? p = w.frozen? p := World.frozen?_of_block (w := w) (h.block p.block hp hn)

/-- a map that is not among what has turned -/
theorem Ch.ownsMap {H : Type} {P : Program} {k : TypeId} {R : Value → Option (DataW H × List MemPlace)} {b n : Nat} {D : DataW H} (h : Ch S w w') (hm : w.ownsMap P k R b n D) (hn : ¬ S b) : w'.ownsMap P k R b n D := by
  have hlt := hm.lt
  obtain ⟨es, clock, hb, F, hs, hD⟩ := hm
  exact ⟨es, clock, (h.block b hlt hn).trans hb, F, hs, hD⟩
/-- an owned row that is not among what has turned -/
theorem Ch.ownsRow {base : Nat} {e : TypeId} {size n : Nat} {v : Value} {xs : List Value} (h : Ch S w w') (hm : w.ownsRow base e size v n xs) (hn : ∀ k, v.ownBlock = some k → ¬ S k) : w'.ownsRow base e size v n xs := by
  obtain ⟨h1, h2⟩ := hm
  refine ⟨h1, ?_⟩
  rcases h2 with h2 | ⟨g, cap, cur, hv, hg, hh, r⟩
  · exact Or.inl h2
  · exact Or.inr ⟨g, cap, cur, hv, hg, by rw [h.block g (Array.getElem?_eq_some_iff.1 hh).1 (hn g (by subst hv; rfl))]; exact hh, r⟩

theorem ownsRow_base {base base' : Nat} {e : TypeId} {size : Nat} {v : Value} {k : Nat} {xs : List Value} (h : w.ownsRow base e size v k xs) (hb : base' ≤ base) : w.ownsRow base' e size v k xs := by
  refine ⟨h.1, ?_⟩
  rcases h.2 with hn | ⟨g, cap, cur, hv, hbg, rest⟩
  · exact .inl hn
  · exact .inr ⟨g, cap, cur, hv, Nat.le_trans hb hbg, rest⟩

/-- the cells of a block known whole -/
theorem cell_of {b off : Nat} {c : Array Value} {e : TypeId} {z : Nat × Nat} {v : Value} (h : w.heap[b]? = some (.cells c e z)) (hv : c[off]? = some v) : w.cell? ⟨b, off, none⟩ = some v := by
  simp [World.cell?, h, hv]
theorem frozen_of {b off : Nat} {c : Array Value} {e : TypeId} (h : w.heap[b]? = some (.cells c e (0, 0))) : w.frozen? ⟨b, off, none⟩ = false := by
  simp [World.frozen?, h]
theorem lt_of_obj {b : Nat} {o : Obj} (h : w.heap[b]? = some o) : b < w.heap.size := (Array.getElem?_eq_some_iff.1 h).1
theorem obj_setCell {b off : Nat} {c : Array Value} {e : TypeId} {z : Nat × Nat} {u : Value} (h : w.heap[b]? = some (.cells c e z)) : (w.setCell ⟨b, off, none⟩ u).heap[b]? = some (.cells (c.setIfInBounds off u) e z) := by
  simp only [World.setCell, Array.getElem?_modify, ↓reduceIte, h, Option.map_some]
  simp
theorem obj_setCell_other {b : Nat} {p : Addr} {o : Obj} {u : Value} (h : w.heap[b]? = some o) (hne : b ≠ p.block) : (w.setCell p u).heap[b]? = some o := by
  rw [Below.heap_setCell _ _ _ _ hne]; exact h
theorem obj_alloc {b : Nat} {o o' : Obj} (h : w.heap[b]? = some o) : (w.alloc o').heap[b]? = some o := by
  rw [Below.heap_alloc _ _ _ (lt_of_obj h)]; exact h
theorem obj_new (w : World) (o : Obj) : (w.alloc o).heap[w.heap.size]? = some o := by
  show (w.heap.push o)[w.heap.size]? = _
  simp
theorem obj_turned {b m : Nat} {o : Obj} (h : w.heap[b]? = some o) (ht : w.mapTurned w' m) (hne : b ≠ m) : w'.heap[b]? = some o := by
  rw [ht.grown.block b (lt_of_obj h) (by simpa using hne)]; exact h
theorem Ch.obj {b : Nat} {o : Obj} (h : Ch S w w') (ho : w.heap[b]? = some o) (hn : ¬ S b) : w'.heap[b]? = some o := (h.block b (lt_of_obj ho) hn).trans ho
theorem Ch.turned {m : Nat} (h : Ch S w w') (ht : w'.mapTurned w'' m) (hm : S m ∨ w.heap.size ≤ m) : Ch S w w'' := h.grown ht.grown (fun k hk => by cases hk; exact hm)

/-- a world of a class -/
structure Kept (I : World → Prop) where
  W : World
  h : I W

/-- A region that draws its order, walked once in the order of the text: each operation yields one value in every world of the class I, and leaves a world of it. -/
theorem region_in {P : Program} {id : Nat} {Q : Exit → Act → World → Prop} {a : Act} {w : World} {l : List Oper} (I : World → Prop) (hm : P.follows .mixedOrders = true) (hB : Region.lexB .any l.toArray = true)
    (hC : I w.drew) (h : wpQuiet P l.toArray (fun w' => ∃ s : Kept I, w' = s.W) (fun a' => ∀ w', (∃ s : Kept I, w' = s.W) → Q .normal a' w') l a) : (Code.region id l.toArray true).wp P Q a w :=
  wp_region_quiet (C := fun w' => ∃ s : Kept I, w' = s.W) hm hB ⟨⟨w.drew, hC⟩, rfl⟩ (by simpa using h)
/-- a call in such a region -/
theorem Calls.inK {P : Program} {f : FuncId} {args : Array Value} {I : World → Prop} {w : World} {v : Value} (h : Calls P f args w fun e w' => e = .returned v ∧ I w') :
    Calls P f args w fun e w'' => e = .returned v ∧ ∃ s : Kept I, w'' = s.W := h.mono fun _ _ ⟨he, hi⟩ => ⟨he, ⟨⟨_, hi⟩, rfl⟩⟩

end Go.Proofs.Ytiagnkmiibaacaa
