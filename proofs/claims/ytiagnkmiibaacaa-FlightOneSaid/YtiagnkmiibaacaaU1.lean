/- One flight turned in memory; one more; one fewer. Conditions: none. -/
import Derived.Test.YtiagnkmiibaacaaC1
namespace Go.Proofs.Ytiagnkmiibaacaa
open Go.RowKit Go.Maps Go.ChangeMaps Go.WideMaps
section
variable {F : Nat → Prop} {p m : Nat} {last : Int} {L : List FT} {N : Nat} {K : KM} {V : Int → Value} {w w' : World} {n : Int}
def updV (V : Int → Value) (n : Int) (v : Value) : Int → Value := fun k => if k = n then v else V k
theorem updV_same (V : Int → Value) (n : Int) (v : Value) : updV V n v n = v := by simp [updV]
theorem updV_other (V : Int → Value) {n k : Int} (v : Value) (h : k ≠ n) : updV V n v k = V k := by simp [updV, h]
theorem mem_upd {L : List FT} {n : Int} {g : FT → FT} {t : FT} : t ∈ upd L n g ↔ ∃ u ∈ L, t = if u.id = n then g u else u := by
  unfold upd; rw [List.mem_map]
  constructor
  · rintro ⟨u, hu, rfl⟩; exact ⟨u, hu, rfl⟩
  · rintro ⟨u, hu, rfl⟩; exact ⟨u, hu, rfl⟩
theorem ids_upd {L : List FT} {n : Int} {g : FT → FT} (hg : ∀ t, (g t).id = t.id) : (upd L n g).map FT.id = L.map FT.id := by
  unfold upd; rw [List.map_map]
  refine List.map_congr_left fun t _ => ?_
  show FT.id (if t.id = n then g t else t) = t.id
  split
  · exact hg t
  · rfl
theorem uniq {L : List FT} (h : L.Pairwise (fun a b => a.id < b.id)) {t u : FT} (ht : t ∈ L) (hu : u ∈ L) (e : t.id = u.id) : t = u := by
  obtain ⟨i, hi, rfl⟩ := List.mem_iff_getElem.1 ht
  obtain ⟨j, hj, rfl⟩ := List.mem_iff_getElem.1 hu
  have hp := List.pairwise_iff_getElem.1 h
  rcases Nat.lt_trichotomy i j with hl | hl | hl
  · have := hp i j hi hj hl; omega
  · subst hl; rfl
  · have := hp j i hj hi hl; omega
/-- the flight t is turned to g t: its block, and who's row -/
theorem FS.turn (h : FS F p m last L N K V w) {t : FT} (hf : find L n = some t) {b : Nat} (hk : K n = some b) {v : Value} {g : FT → FT} (hg : ∀ t, (g t).id = t.id)
    {T : Nat → Prop} (c : Ch T w w') (hT : ∀ j, T j → j = b ∨ (V n).ownBlock = some j ∨ w.heap.size ≤ j) (hi : IT w' (g t) b v) (hv : ∀ k, v.ownBlock = some k → (V n).ownBlock = some k ∨ w.heap.size ≤ k) :
    FS (fun k => F k ∨ v.ownBlock = some k) p m last (upd L n g) N K (updV V n v) w' ∧ Tn F (fun k => F k ∨ v.ownBlock = some k) w w' := by
  obtain ⟨ht, e⟩ := find_some hf
  obtain ⟨b', hb', hit, hFb, hFV⟩ := h.it t ht
  rw [e] at hb' hit hFV
  obtain rfl : b = b' := Option.some.inj (hk.symm.trans hb')
  have bt : b < w.heap.size := lt_of_obj hit.blk
  have ne91 : ∀ {j : Nat} {cs : Array Value} {ty : TypeId} {z : Nat × Nat}, w.heap[j]? = some (.cells cs ty z) → ty ≠ 91 → ty ≠ 3 → ¬ T j := fun {j cs ty z} hj h1 h2 hTj => by
    rcases hT j hTj with rfl | hj2 | hj2
    · rw [hit.blk] at hj; cases hj; exact h1 rfl
    · obtain ⟨cs', h'⟩ := own_type hit.own hj2
      rw [h'] at hj; cases hj; exact h2 rfl
    · have := lt_of_obj hj; omega
  have mT : ¬ T m := fun hTm => by
    obtain ⟨D, ⟨es, clock, hb, _⟩, _⟩ := h.map
    rcases hT m hTm with rfl | hj2 | hj2
    · rw [hit.blk] at hb; cases hb
    · obtain ⟨cs', h'⟩ := own_type hit.own hj2
      rw [h'] at hb; cases hb
    · have := lt_of_obj hb; omega
  have other : ∀ u ∈ L, u.id ≠ n → ∃ b2, K u.id = some b2 ∧ IT w' u b2 (V u.id) ∧ F b2 ∧ (∀ k, (V u.id).ownBlock = some k → F k) := by
    intro u hu hne
    obtain ⟨b2, hb2, hi2, hF2, hV2⟩ := h.it u hu
    refine ⟨b2, hb2, ⟨c.obj hi2.blk (fun hTb => ?_), c.ownsRow hi2.own (fun k hk' hTk => ?_)⟩, hF2, hV2⟩
    · rcases hT b2 hTb with rfl | hj2 | hj2
      · have h1 := hi2.blk
        rw [hit.blk] at h1
        simp at h1
        exact hne (h1.1.symm.trans e)
      · obtain ⟨cs', h'⟩ := own_type hit.own hj2
        have h1 := hi2.blk
        rw [h'] at h1; cases h1
      · have := lt_of_obj hi2.blk; omega
    · obtain ⟨cs', h'⟩ := own_type hi2.own hk'
      rcases hT k hTk with rfl | hj2 | hj2
      · have h1 := hit.blk
        rw [h'] at h1; cases h1
      · exact h.apart t ht u hu (by rw [e]; exact fun x => hne x.symm) k (by rw [e]; exact hj2) hk'
      · have := lt_of_obj h'; omega
  refine ⟨⟨c.obj h.obj (ne91 h.obj (by decide) (by decide)), ?_, fun u hu => ?_, fun k hk' => ?_, ?_, fun u hu => ?_, h.l0, ?_, .inl h.fp, .inl h.fm, fun k hk' => ?_⟩, ⟨c.mono fun j hj hl => ?_, fun k hk' => ?_⟩⟩
  · obtain ⟨D, hm, hr⟩ := h.map
    exact ⟨D, c.ownsMap hm mT, hr⟩
  · obtain ⟨u0, hu0, rfl⟩ := mem_upd.1 hu
    by_cases hid : u0.id = n
    · rw [if_pos hid]
      obtain rfl := uniq h.up hu0 ht (hid.trans e.symm)
      rw [hg, hid, updV_same]
      exact ⟨b, hk, hi, .inl hFb, fun k hk' => .inr hk'⟩
    · rw [if_neg hid, updV_other _ _ hid]
      obtain ⟨b2, h1, h2, h3, h4⟩ := other u0 hu0 hid
      exact ⟨b2, h1, h2, .inl h3, fun k hk' => .inl (h4 k hk')⟩
  · refine h.no k fun u hu hid => hk' (if u.id = n then g u else u) (mem_upd.2 ⟨u, hu, rfl⟩) ?_
    split
    · rw [hg]; exact hid
    · exact hid
  · have := h.up
    rw [← List.pairwise_map (f := FT.id) (R := fun a b => a < b)] at this ⊢
    rw [ids_upd hg]
    exact this
  · obtain ⟨u0, hu0, rfl⟩ := mem_upd.1 hu
    have := h.rng u0 hu0
    split
    · rw [hg]; exact this
    · exact this
  · intro u hu z hz hne k h1 h2
    obtain ⟨u0, hu0, rfl⟩ := mem_upd.1 hu
    obtain ⟨z0, hz0, rfl⟩ := mem_upd.1 hz
    have eu : FT.id (if u0.id = n then g u0 else u0) = u0.id := by split; exact hg _; rfl
    have ez : FT.id (if z0.id = n then g z0 else z0) = z0.id := by split; exact hg _; rfl
    rw [eu] at h1 hne
    rw [ez] at h2 hne
    by_cases hu1 : u0.id = n
    · rw [hu1, updV_same] at h1
      rw [updV_other _ _ (fun x => hne (hu1.trans x.symm))] at h2
      rcases hv k h1 with h3 | h3
      · exact h.apart t ht z0 hz0 (by rw [e, ← hu1]; exact hne) k (by rw [e]; exact h3) h2
      · obtain ⟨_, _, hi2, _⟩ := h.it z0 hz0
        obtain ⟨cs', h'⟩ := own_type hi2.own h2
        have := lt_of_obj h'; omega
    · rw [updV_other _ _ hu1] at h1
      by_cases hz1 : z0.id = n
      · rw [hz1, updV_same] at h2
        rcases hv k h2 with h3 | h3
        · exact h.apart u0 hu0 t ht (by rw [e, ← hz1]; exact hne) k h1 (by rw [e]; exact h3)
        · obtain ⟨_, _, hi2, _⟩ := h.it u0 hu0
          obtain ⟨cs', h'⟩ := own_type hi2.own h1
          have := lt_of_obj h'; omega
      · rw [updV_other _ _ hz1] at h2
        exact h.apart u0 hu0 z0 hz0 hne k h1 h2
  · rcases hk' with hk' | hk'
    · exact Nat.lt_of_lt_of_le (h.lt k hk') c.size
    · obtain ⟨cs', h'⟩ := own_type hi.own hk'
      exact lt_of_obj h'
  · rcases hT j hj with rfl | h1 | h1
    · exact hFb
    · exact hFV j h1
    · omega
  · rcases hk' with hk' | hk'
    · exact .inl hk'
    · rcases hv k hk' with h1 | h1
      · exact .inl (hFV k h1)
      · exact .inr h1
theorem find_id {L : List FT} {n : Int} (h : find L n = none) : ∀ t ∈ L, t.id ≠ n := find_none h
/-- a flight more -/
theorem FS.add (h : FS F p m last L N K V w) {t : FT} {b : Nat} {T : Nat → Prop} (hid : t.id = last + 1) (c : Ch T w w') (hT : ∀ j, T j → j = p ∨ j = m ∨ w.heap.size ≤ j)
    (ho : w'.heap[p]? = some (.cells #[.int .i64 (last + 1), .map (some m)] 87 (0, 0)))
    (hm : ∃ D, w'.ownsMap Try.prog 2 Rk m (N + 1) D ∧ Rel D (fun k => if k = last + 1 then some b else K k)) (hi : IT w' t b (.slice none 0 0)) (hb : w.heap.size ≤ b) :
    FS (fun k => F k ∨ k = b) p m (last + 1) (L ++ [t]) (N + 1) (fun k => if k = last + 1 then some b else K k) (updV V (last + 1) (.slice none 0 0)) w' ∧ Tn F (fun k => F k ∨ k = b) w w' := by
  have nT : ∀ {j : Nat} {cs : Array Value} {ty : TypeId} {z : Nat × Nat}, w.heap[j]? = some (.cells cs ty z) → ty ≠ 87 → ¬ T j := fun {j cs ty z} hj h1 hTj => by
    rcases hT j hTj with rfl | rfl | hj2
    · rw [h.obj] at hj; cases hj; exact h1 rfl
    · obtain ⟨D, ⟨es, clock, hb, _⟩, _⟩ := h.map
      rw [hb] at hj; cases hj
    · have := lt_of_obj hj; omega
  have old : ∀ u ∈ L, u.id ≠ last + 1 := fun u hu e => by have := (h.rng u hu).2; omega
  refine ⟨⟨ho, hm, fun u hu => ?_, fun k hk => ?_, ?_, fun u hu => ?_, by have := h.l0; omega, ?_, .inl h.fp, .inl h.fm, fun k hk => ?_⟩, ⟨c.mono fun j hj hl => ?_, fun k hk => ?_⟩⟩
  · rcases List.mem_append.1 hu with hu | hu
    · obtain ⟨b2, h1, h2, h3, h4⟩ := h.it u hu
      rw [updV_other _ _ (old u hu), if_neg (old u hu)]
      refine ⟨b2, h1, ⟨c.obj h2.blk (nT h2.blk (by decide)), c.ownsRow h2.own fun k hk => ?_⟩, .inl h3, fun k hk => .inl (h4 k hk)⟩
      obtain ⟨cs', h'⟩ := own_type h2.own hk
      exact nT h' (by decide)
    · obtain rfl : u = t := by simpa using hu
      rw [hid, updV_same, if_pos rfl]
      exact ⟨b, rfl, hi, .inr rfl, fun k hk => by simp [Value.ownBlock] at hk⟩
  · have h1 : k ≠ last + 1 := fun e => hk t (by simp) (by rw [hid, e])
    rw [if_neg h1]
    exact h.no k fun u hu => hk u (by simp [hu])
  · exact List.pairwise_append.2 ⟨h.up, by simp, fun u hu z hz => by
      obtain rfl : z = t := by simpa using hz
      have := (h.rng u hu).2
      omega⟩
  · rcases List.mem_append.1 hu with hu | hu
    · have := h.rng u hu; omega
    · obtain rfl : u = t := by simpa using hu
      have := h.l0; omega
  · intro u hu z hz hne k h1 h2
    rcases List.mem_append.1 hu with hu | hu
    · rw [updV_other _ _ (old u hu)] at h1
      rcases List.mem_append.1 hz with hz | hz
      · rw [updV_other _ _ (old z hz)] at h2
        exact h.apart u hu z hz hne k h1 h2
      · obtain rfl : z = t := by simpa using hz
        rw [hid, updV_same] at h2
        simp [Value.ownBlock] at h2
    · obtain rfl : u = t := by simpa using hu
      rw [hid, updV_same] at h1
      simp [Value.ownBlock] at h1
  · rcases hk with hk | rfl
    · exact Nat.lt_of_lt_of_le (h.lt k hk) c.size
    · exact lt_of_obj hi.blk
  · rcases hT j hj with rfl | rfl | h1
    · exact h.fp
    · exact h.fm
    · omega
  · rcases hk with hk | rfl
    · exact .inl hk
    · exact .inr hb
/-- a flight fewer -/
theorem FS.del (h : FS F p m last L N K V w) {N' : Nat} (c : Ch (fun j => j = m) w w') (hm : ∃ D, w'.ownsMap Try.prog 2 Rk m N' D ∧ Rel D (fun k => if k = n then none else K k)) :
    FS F p m last (L.filter fun t => decide (t.id ≠ n)) N' (fun k => if k = n then none else K k) V w' ∧ Tn F F w w' := by
  have nT : ∀ {j : Nat} {cs : Array Value} {ty : TypeId} {z : Nat × Nat}, w.heap[j]? = some (.cells cs ty z) → ¬ j = m := fun {j cs ty z} hj e => by
    subst e
    obtain ⟨D, ⟨es, clock, hb, _⟩, _⟩ := h.map
    rw [hb] at hj; cases hj
  have mem : ∀ {u : FT}, u ∈ L.filter (fun t => decide (t.id ≠ n)) → u ∈ L ∧ u.id ≠ n := fun hu => by simpa using List.mem_filter.1 hu
  refine ⟨⟨c.obj h.obj (nT h.obj), hm, fun u hu => ?_, fun k hk => ?_, h.up.filter _, fun u hu => h.rng u (mem hu).1, h.l0, fun u hu z hz => h.apart u (mem hu).1 z (mem hz).1, h.fp, h.fm, fun k hk => Nat.lt_of_lt_of_le (h.lt k hk) c.size⟩, ⟨c.mono fun j hj hl => ?_, fun k hk => .inl hk⟩⟩
  · obtain ⟨b2, h1, h2, h3, h4⟩ := h.it u (mem hu).1
    rw [if_neg (mem hu).2]
    refine ⟨b2, h1, ⟨c.obj h2.blk (nT h2.blk), c.ownsRow h2.own fun k hk => ?_⟩, h3, h4⟩
    obtain ⟨cs', h'⟩ := own_type h2.own hk
    exact nT h'
  · by_cases e : k = n
    · rw [if_pos e]
    · rw [if_neg e]
      exact h.no k fun u hu hid => hk u (List.mem_filter.2 ⟨hu, by simpa [hid] using e⟩) hid
  · rw [hj]; exact h.fm
end
end Go.Proofs.Ytiagnkmiibaacaa
