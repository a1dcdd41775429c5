/- The flights in memory: a table of flights, each in a block of its own. Conditions: none. -/
import Derived.Test.YtiagnkmiibaacaaRows
import Derived.Test.YtiagnkmiibaacaaFr
import Derived.WalkLawsBesides
import Derived.WalkSpells
import Derived.Lib.Hide
import Derived.Deep.RegionHeld3
import Derived.Deep.DeepCutAuto
import Derived.Deep.CutBlock
import Derived.IntWalk
import Derived.Laws.Rows
namespace Go.Proofs.Ytiagnkmiibaacaa
open Go.RowKit Go.Maps Go.ChangeMaps Go.WideMaps

theorem law2 : Keyed Try.prog 2 := int_keyed Try.underlying2
theorem noF : ∀ b : Nat, ¬ (fun _ : Nat => False) b := fun _ h => h
abbrev ik (n : Int) : Lit := .int .i64 n
theorem isKey (n : Int) : WideAt.IsKeyLit (ik n) := trivial
theorem ik_ne {a b : Int} (h : a ≠ b) : ik b ≠ ik a := by intro e; cases e; exact h rfl

/-- how a pointer to a block's first cell is read: by the block's number -/
def Rk : Value → Option (DataW Unit × List MemPlace)
  | .pointer none => some (.nil, [])
  | .pointer (some ⟨b, 0, none⟩) => some (.lit (.int .i64 b), [])
  | _ => none
theorem Rk_none : Rk (.pointer none) = some (.nil, []) := rfl
theorem Rk_some (b : Nat) : Rk (.pointer (some ⟨b, 0, none⟩)) = some (.lit (.int .i64 b), []) := rfl
/-- the pointer, and its datum -/
def pv : Option Nat → Value
  | none => .pointer none
  | some b => .pointer (some ⟨b, 0, none⟩)
def pd : Option Nat → DataW Unit
  | none => .nil
  | some b => .lit (.int .i64 b)
theorem Rk_inv {v : Value} {o : Option Nat} {ps : List MemPlace} (h : Rk v = some (pd o, ps)) : v = pv o := by
  unfold Rk at h
  split at h
  · cases o with
    | none => rfl
    | some b => simp [pd] at h
  · rename_i b
    cases o with
    | none => simp [pd] at h
    | some c =>
      simp [pd] at h
      have : b = c := by omega
      subst this; rfl
  · cases h

abbrev KM := Int → Option Nat
structure Rel (D : DataW Unit) (K : KM) : Prop where
  at_ : ∀ n, D.atKey (ik n) .nil = pd (K n)
  has : ∀ n, Maps.has D (ik n) = (K n).isSome
theorem rel_empty : Rel (.map []) (fun _ => none) := ⟨fun _ => rfl, fun _ => rfl⟩
theorem rel_put {D : DataW Unit} {K : KM} (r : Rel D K) (hD : Maps.IsMap D) (n : Int) (b : Nat) :
    Rel (D.put (ik n) (.lit (.int .i64 b))) (fun k => if k = n then some b else K k) := by
  refine ⟨fun k => ?_, fun k => ?_⟩
  · by_cases hk : k = n
    · subst hk; simp only [if_pos]; rw [atKey_put_same hD (isKey k)]; rfl
    · simp only [if_neg hk]; rw [atKey_put_other (ik_ne (Ne.symm hk)), r.at_]
  · by_cases hk : k = n
    · subst hk; simp only [if_pos]; rw [has_put_same hD (isKey k)]; rfl
    · simp only [if_neg hk]; rw [has_put_other (ik_ne (Ne.symm hk)), r.has]

/-- a flight, as it is handed in and out -/
structure Fl where
  id : Int
  obj : ByteArray
  fr : Int
  upto : Int
  mt : ByteArray
  mw : Bool
  nt : ByteArray
  nw : Bool
  entry : Int
  said : Int
  moment : Int
  gen : Int
  at_ : Int
  heard : Bool
/-- its cells, and those of one under way -/
abbrev cF (f : Fl) : Array Value := #[.int .i64 f.id, .string f.obj, .int .i64 f.fr, .int .i64 f.upto, .string f.mt, .bool f.mw, .string f.nt, .bool f.nw, .int .i64 f.entry, .int .i64 f.said, .int .i64 f.moment, .int .i64 f.gen, .int .i64 f.at_, .bool f.heard]
abbrev cT (f : Fl) (e : Int) (v : Value) : Array Value := #[.int .i64 f.id, .string f.obj, .int .i64 f.fr, .int .i64 f.upto, .string f.mt, .bool f.mw, .string f.nt, .bool f.nw, .int .i64 f.entry, .int .i64 f.said, .int .i64 f.moment, .int .i64 f.gen, .int .i64 f.at_, .bool f.heard, .int .i64 e, v]

/-- a flight under way: what it is, up to where it brings, who waits -/
structure FT where
  f : Fl
  en : Int
  who : List Int
abbrev FT.id (t : FT) : Int := t.f.id
abbrev ints (l : List Int) : List Value := l.map (Value.int .i64)
structure IT (w : World) (t : FT) (b : Nat) (v : Value) : Prop where
  blk : w.heap[b]? = some (.cells (cT t.f t.en v) 91 (0, 0))
  own : w.ownsRow 0 3 1 v t.who.length (ints t.who)
/-- the table at block p, its map at m, what it has written down; F: the blocks that are its own -/
structure FS (F : Nat → Prop) (p m : Nat) (last : Int) (L : List FT) (N : Nat) (K : KM) (V : Int → Value) (w : World) : Prop where
  obj : w.heap[p]? = some (.cells #[.int .i64 last, .map (some m)] 87 (0, 0))
  map : ∃ D, w.ownsMap Try.prog 2 Rk m N D ∧ Rel D K
  it : ∀ t ∈ L, ∃ b, K t.id = some b ∧ IT w t b (V t.id) ∧ F b ∧ ∀ k, (V t.id).ownBlock = some k → F k
  no : ∀ n, (∀ t ∈ L, t.id ≠ n) → K n = none
  up : L.Pairwise (fun a b => a.id < b.id)
  rng : ∀ t ∈ L, 1 ≤ t.id ∧ t.id ≤ last
  l0 : 0 ≤ last
  apart : ∀ t ∈ L, ∀ u ∈ L, t.id ≠ u.id → ∀ k, (V t.id).ownBlock = some k → (V u.id).ownBlock ≠ some k
  fp : F p
  fm : F m
  lt : ∀ k, F k → k < w.heap.size
/-- what a call on the table leaves: what is not its own is as it was -/
structure Tn (F F' : Nat → Prop) (w w' : World) : Prop where
  ch : Ch F w w'
  sub : ∀ k, F' k → F k ∨ w.heap.size ≤ k
theorem Tn.trans {F F' F'' : Nat → Prop} {w w' w'' : World} (h : Tn F F' w w') (k : Tn F' F'' w' w'') : Tn F F'' w w'' :=
  ⟨h.ch.trans k.ch (fun b hb hl => by rcases h.sub b hb with h1 | h1; exact h1; omega), fun b hb => by
    rcases k.sub b hb with h1 | h1
    · exact h.sub b h1
    · exact .inr (Nat.le_trans h.ch.size h1)⟩
theorem Tn.same {F : Nat → Prop} {w w' : World} (c : Ch (fun _ => False) w w') : Tn F F w w' := ⟨c.mono fun _ h _ => h.elim, fun _ h => .inl h⟩

theorem own_type {w : World} {base : Nat} {e : TypeId} {size n : Nat} {v : Value} {xs : List Value} (h : w.ownsRow base e size v n xs) {k : Nat} (hk : v.ownBlock = some k) : ∃ cs, w.heap[k]? = some (.cells cs e (0, 0)) := by
  rcases h.2 with ⟨rfl, _⟩ | ⟨g, cap, cur, rfl, _, hh, _⟩
  · simp [Value.ownBlock] at hk
  · have : g = k := by simpa [Value.ownBlock] using hk
    subst this
    exact ⟨_, hh⟩
section
variable {F : Nat → Prop} {p m : Nat} {last : Int} {L : List FT} {N : Nat} {K : KM} {V : Int → Value} {w w' : World}
theorem FS.far (h : FS F p m last L N K V w) {T : Nat → Prop} (c : Ch T w w') (hT : ∀ k, T k → ¬ F k) : FS F p m last L N K V w' := by
  refine ⟨c.obj h.obj (fun t => hT _ t h.fp), ?_, fun t ht => ?_, h.no, h.up, h.rng, h.l0, h.apart, h.fp, h.fm, fun k hk => Nat.lt_of_lt_of_le (h.lt k hk) c.size⟩
  · obtain ⟨D, hm, hr⟩ := h.map
    exact ⟨D, c.ownsMap hm (fun t => hT _ t h.fm), hr⟩
  · obtain ⟨b, hb, hi, hF, hV⟩ := h.it t ht
    exact ⟨b, hb, ⟨c.obj hi.blk (fun t => hT _ t hF), c.ownsRow hi.own (fun k hk t => hT _ t (hV k hk))⟩, hF, hV⟩
theorem FS.mono (h : FS F p m last L N K V w) {N' : Nat} (hN : N ≤ N') : FS F p m last L N' K V w :=
  ⟨h.obj, by obtain ⟨D, hm, hr⟩ := h.map; exact ⟨D, hm.mono hN, hr⟩, h.it, h.no, h.up, h.rng, h.l0, h.apart, h.fp, h.fm, h.lt⟩
theorem FS.pne (h : FS F p m last L N K V w) : p ≠ m := by
  rintro rfl
  obtain ⟨D, ⟨es, clock, hb, _⟩, _⟩ := h.map
  rw [h.obj] at hb; cases hb
theorem zero89 (w : World) : (zeroValue 89).run Try.prog w = .ok (.pointer none) w := by kernel_rfl
theorem FS.look (h : FS F p m last L N K V w) {n : Int} (hw : (Lit.int .i64 n).wf = true) : (Instr.lookup 85 (.map (some m)) (.int .i64 n) true).run Try.prog w = .ok (.tuple #[pv (K n), .bool (K n).isSome]) w := by
  obtain ⟨D, hm, hr⟩ := h.map
  obtain ⟨v, ps, hrun, hv⟩ := hm.look_ok law2 Try.underlying85 (zero89 w) Rk_none (keyOf_int_mk Try.underlying2 hw)
  rw [hr.at_] at hv
  rw [hr.has] at hrun
  rw [hrun, Rk_inv hv]
theorem FS.c1 (h : FS F p m last L N K V w) : w.cell? ⟨p, 1, none⟩ = some (.map (some m)) := cell_of h.obj rfl
theorem FS.c0 (h : FS F p m last L N K V w) : w.cell? ⟨p, 0, none⟩ = some (.int .i64 last) := cell_of h.obj rfl
end
/-- the flight of a number -/
def find (L : List FT) (n : Int) : Option FT := L.find? (fun t => decide (t.id = n))
theorem find_some {L : List FT} {n : Int} {t : FT} (h : find L n = some t) : t ∈ L ∧ t.id = n := by
  have := List.find?_some h
  exact ⟨List.mem_of_find?_eq_some h, by simpa using this⟩
theorem find_none {L : List FT} {n : Int} (h : find L n = none) : ∀ t ∈ L, t.id ≠ n := by
  have := List.find?_eq_none.1 h
  intro t ht e
  exact this t ht (by simpa using e)

theorem new_any (w : World) : Calls Try.prog 10 #[] w fun e w' => e = .returned (.pointer (some ⟨w.heap.size + 1, 0, none⟩)) ∧ FS (fun k => k = w.heap.size ∨ k = w.heap.size + 1) (w.heap.size + 1) w.heap.size 0 [] 0 (fun _ => none) (fun _ => .slice none 0 0) w' ∧ Ch (fun _ => False) w w' := by
  have hmm := @run_makeMap Try.prog
  go_enter Try.func10, Try.ntmps10
  go_wp2
  go_ret
  have o := obj_new (w.alloc (.map #[] 0)) (.cells #[.int .i64 0, .map (some w.heap.size)] 87)
  rw [show (w.alloc (.map #[] 0)).heap.size = w.heap.size + 1 by simp] at o
  refine ⟨rfl, ⟨o, ⟨_, (World.ownsMap_made w Try.prog 2 Rk).alloc _, rel_empty⟩, fun t h => (by cases h), fun _ _ => rfl, List.Pairwise.nil, fun t h => (by cases h), (by omega), fun t h => (by cases h), .inr rfl, .inl rfl, fun k hk => ?_⟩, ((Ch.refl _ w).alloc _).alloc _⟩
  rcases hk with rfl | rfl <;> simp <;> omega
/-- the fourteen cells of a flight in a block -/
theorem cells14 {w : World} {b : Nat} {f : Fl} {e : Int} {v : Value} (hb : w.heap[b]? = some (.cells (cT f e v) 91 (0, 0))) :
    w.cell? ⟨b, 0, none⟩ = some (.int .i64 f.id) ∧ w.cell? ⟨b, 1, none⟩ = some (.string f.obj) ∧ w.cell? ⟨b, 2, none⟩ = some (.int .i64 f.fr) ∧ w.cell? ⟨b, 3, none⟩ = some (.int .i64 f.upto) ∧ w.cell? ⟨b, 4, none⟩ = some (.string f.mt) ∧ w.cell? ⟨b, 5, none⟩ = some (.bool f.mw) ∧ w.cell? ⟨b, 6, none⟩ = some (.string f.nt) ∧ w.cell? ⟨b, 7, none⟩ = some (.bool f.nw) ∧ w.cell? ⟨b, 8, none⟩ = some (.int .i64 f.entry) ∧ w.cell? ⟨b, 9, none⟩ = some (.int .i64 f.said) ∧ w.cell? ⟨b, 10, none⟩ = some (.int .i64 f.moment) ∧ w.cell? ⟨b, 11, none⟩ = some (.int .i64 f.gen) ∧ w.cell? ⟨b, 12, none⟩ = some (.int .i64 f.at_) ∧ w.cell? ⟨b, 13, none⟩ = some (.bool f.heard) :=
  ⟨cell_of hb rfl, cell_of hb rfl, cell_of hb rfl, cell_of hb rfl, cell_of hb rfl, cell_of hb rfl, cell_of hb rfl, cell_of hb rfl, cell_of hb rfl, cell_of hb rfl, cell_of hb rfl, cell_of hb rfl, cell_of hb rfl, cell_of hb rfl⟩
end Go.Proofs.Ytiagnkmiibaacaa
