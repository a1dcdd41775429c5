/- What ranges.Of does: the first loop, which keeps the spans that have bytes. Conditions: the list lies in memory. -/
import Derived.Test.YtbgojgoejlhgeaaDoorH1
namespace Go.Proofs.YtbgojgoejlhgeaaDoor.Pr
open Go.RowKit Go.Proofs.YtbgojgoejlhgeaaDoorW.PrintWords

def flat2 (l : List S42) : List Value := l.flatMap fun s => [.int .i64 s.f0, .int .i64 s.f1]
theorem flat2_append (a b : List S42) : flat2 (a ++ b) = flat2 a ++ flat2 b := by simp [flat2]
theorem flat2_length (l : List S42) : (flat2 l).length = l.length * 2 := by
  induction l with
  | nil => rfl
  | cons s r ih => simp only [flat2, List.flatMap_cons, List.length_append] at ih ⊢; simp; simp at ih; omega
theorem flat2_get (l : List S42) (i : Nat) (h : i < l.length) : (flat2 l)[i * 2]? = some (.int .i64 l[i].f0) ∧ (flat2 l)[i * 2 + 1]? = some (.int .i64 l[i].f1) := by
  induction l generalizing i with
  | nil => simp at h
  | cons s r ih =>
    cases i with
    | zero => simp [flat2]
    | succ i =>
      have := ih i (by simpa using h)
      have e : flat2 (s :: r) = .int .i64 s.f0 :: .int .i64 s.f1 :: flat2 r := by simp [flat2]
      rw [e, show (i + 1) * 2 = i * 2 + 1 + 1 by omega]
      simpa using this
theorem flat2_reps (w : World) (base : Nat) (ok : Nat → Prop) (l : List S42) : Reps (k42.M w base ok) k42.sz l (flat2 l) := by
  refine ⟨by rw [flat2_length]; rfl, fun j p hj => ?_⟩
  obtain ⟨hl, rfl⟩ := List.getElem?_eq_some_iff.1 hj
  have e : ((flat2 l).drop (j * k42.sz)).take k42.sz = [.int .i64 l[j].f0, .int .i64 l[j].f1] := by
    show ((flat2 l).drop (j * 2)).take 2 = _
    obtain ⟨h0, h1⟩ := flat2_get l j hl
    obtain ⟨g0, e0⟩ := List.getElem?_eq_some_iff.1 h0
    obtain ⟨g1, e1⟩ := List.getElem?_eq_some_iff.1 h1
    rw [List.drop_eq_getElem_cons g0, List.drop_eq_getElem_cons g1, e0, e1]; rfl
  rw [e]
  exact k42_mkM w base ok l[j]
theorem R_of_own {w : World} {base : Nat} {v : Value} {l : List S42} (h : w.ownsRow base 42 2 v l.length (flat2 l)) : Kd.R k42 42 w base (fun _ => True) v l :=
  ⟨fun _ _ => trivial, flat2 l, h, flat2_reps w base _ l⟩
theorem C_of_own {w : World} {base : Nat} {A : Option Addr} {c : Nat} {l : List S42} (h : w.ownsRow base 42 2 (.slice A l.length c) l.length (flat2 l)) : Kd.C k42 w A l.length l := by
  obtain ⟨A', c', e, _, hc⟩ := Kd.R_reads (R_of_own h)
  cases e; exact hc
theorem flat2_one (l : List S42) : ∀ u ∈ flat2 l, u.oneCell' = true := by
  intro u hu
  obtain ⟨s, _, hs⟩ := List.mem_flatMap.1 hu
  simp at hs
  rcases hs with rfl | rfl <;> rfl
theorem info42' : (Tryd.prog.info? 42).map (fun i => (i.zero, i.size, i.bytes)) = some (some (.agg #[(.int .i64 0), (.int .i64 0)]), 2, 16) := info42

theorem right44 (s : S42) (w : World) : Calls Tryd.prog 44 #[.agg #[.int .i64 s.f0, .int .i64 s.f1]] w fun e w' => e = .returned (.bool (decide (okS s))) ∧ Below w.heap.size w w' := by
  unfold okS
  by_cases h0 : 0 ≤ s.f0
  · by_cases h1 : s.f0 ≤ s.f1
    · have e : decide (0 ≤ s.f0 ∧ s.f0 ≤ s.f1 ∧ s.f1 ≤ 4611686018427387904) = decide (s.f1 ≤ 4611686018427387904) := by simp [h0, h1]
      rw [e]
      clear e
      go_enter Tryd.func44, Tryd.ntmps44
      go_wp2_with fail
      go_ret
      exact ⟨rfl, (Below.refl _ w).alloc (Nat.le_refl _) _⟩
    · have e : decide (0 ≤ s.f0 ∧ s.f0 ≤ s.f1 ∧ s.f1 ≤ 4611686018427387904) = false := by simp [h1]
      rw [e]
      clear e
      go_enter Tryd.func44, Tryd.ntmps44
      go_wp2_with fail
      go_ret
      exact ⟨rfl, (Below.refl _ w).alloc (Nat.le_refl _) _⟩
  · have e : decide (0 ≤ s.f0 ∧ s.f0 ≤ s.f1 ∧ s.f1 ≤ 4611686018427387904) = false := by simp [h0]
    rw [e]
    clear e
    go_enter Tryd.func44, Tryd.ntmps44
    go_wp2_with fail
    go_ret
    exact ⟨rfl, (Below.refl _ w).alloc (Nat.le_refl _) _⟩

/-- what the loops keep: the result's cell, a row of the call's own -/
structure OF (w : World) (B : Nat) (v : Value) (l : List S42) (W : World) : Prop where
  box : W.heap[w.heap.size]? = some (.cells #[.slice none 0 0] 29 (0, 0))
  below : Below w.heap.size w W
  own : W.ownsRow B 42 2 v l.length (flat2 l)
  base : w.heap.size + 1 ≤ B
theorem blk_of {w W : World} {b : Nat} {o : Obj} (h : w.heap[b]? = some o) (hb : Below w.heap.size w W) : W.heap[b]? = some o := by
  rw [hb.block b (Array.getElem?_eq_some_iff.1 h).1]; exact h
theorem OF.step {w : World} {B : Nat} {v : Value} {l : List S42} {W W' : World} (h : OF w B v l W) (hb : Below W.heap.size W W') : OF w B v l W' :=
  ⟨blk_of h.box hb, h.below.trans (hb.mono h.below.size), by
    have := pw_own_below h.own hb
    exact this, h.base⟩
theorem OF.size {w : World} {B : Nat} {v : Value} {l : List S42} {W : World} (h : OF w B v l W) : w.heap.size + 1 ≤ W.heap.size := (Array.getElem?_eq_some_iff.1 h.box).1
/-- the row grows -/
theorem OF.push {w : World} {B : Nat} {v v' : Value} {l l' : List S42} {W W' : World} (h : OF w B v l W) (hg : W.grownBy W' v.ownBlock) (own : W'.ownsRow B 42 2 v' l'.length (flat2 l')) : OF w B v' l' W' := by
  have ne : ∀ k, v.ownBlock = some k → w.heap.size + 1 ≤ k := fun k hk => Nat.le_trans h.base (own_base h.own k hk)
  exact ⟨by rw [hg.block _ h.size (fun e => by have := ne _ e.symm; omega)]; exact h.box, h.below.grown hg h.below.size (fun k hk => by have := ne k hk; omega), own, h.base⟩

theorem new_obj (w : World) (o : Obj) : (w.alloc o).heap[w.heap.size]? = some o := by show (w.heap.push o)[w.heap.size]? = _; simp
theorem cellO {w : World} {b off : Nat} {c : Array Value} {e : TypeId} {z : Nat × Nat} {v : Value} (h : w.heap[b]? = some (.cells c e z)) (hv : c[off]? = some v) : w.cell? ⟨b, off, none⟩ = some v := by
  simp [World.cell?, h, hv]
theorem frozenO {w : World} {b off : Nat} {c : Array Value} {e : TypeId} (h : w.heap[b]? = some (.cells c e (0, 0))) : w.frozen? ⟨b, off, none⟩ = false := by
  simp [World.frozen?, h]
theorem cells2_new (w : World) (x y : Value) (e : TypeId) : ∀ (j : Nat) (u : Value), [x, y][j]? = some u → (w.alloc (.cells #[x, y] e)).cell? ((⟨w.heap.size, 0, none⟩ : Addr).add j) = some u := by
  intro j u hj
  have e' : (⟨w.heap.size, 0, none⟩ : Addr).add j = ⟨w.heap.size, j, none⟩ := by unfold Addr.add; split <;> simp_all
  rw [e']
  exact cellO (new_obj w _) (by simpa using hj)
theorem filter_yes {l : List S42} {k : Nat} (hlt : k < l.length) (h : ok2 l[k]) : (l.take (k + 1)).filter (fun s => decide (ok2 s)) = (l.take k).filter (fun s => decide (ok2 s)) ++ [l[k]] := by
  rw [List.take_succ_eq_append_getElem hlt, List.filter_append]; simp [h]
theorem filter_no {l : List S42} {k : Nat} (hlt : k < l.length) (h : ¬ ok2 l[k]) : (l.take (k + 1)).filter (fun s => decide (ok2 s)) = (l.take k).filter (fun s => decide (ok2 s)) := by
  rw [List.take_succ_eq_append_getElem hlt, List.filter_append]; simp [h]

end Go.Proofs.YtbgojgoejlhgeaaDoor.Pr
