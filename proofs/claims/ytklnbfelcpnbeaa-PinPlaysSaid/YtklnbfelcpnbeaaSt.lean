/- The Pins in memory: a map of keys behind a lock, and holds. Conditions: none. -/
import Derived.Test.YtklnbfelcpnbeaaA2
import Derived.WalkLawsBesides
import Derived.WalkSpells
namespace Go.Proofs.Ytklnbfelcpnbeaa
open Go.RowKit Go.Maps Go.ChangeMaps Go.WideMaps Go.MuLone

theorem law2 : Keyed Try.prog 2 := int_keyed Try.underlying2
theorem zero65 (w : World) : (zeroValue 65).run Try.prog w = .ok (.pointer none) w := by kernel_rfl
theorem noF : ∀ b : Nat, ¬ (fun _ : Nat => False) b := fun _ h => h
theorem chN (S : Nat → Prop) (w : World) (k : Nat) : Ch S w (w.drewN k) := ⟨rfl, rfl, rfl, Nat.le_refl _, fun _ _ _ => rfl⟩
abbrev ik (n : Int) : Lit := .int .i64 n
theorem isKey (n : Int) : WideAt.IsKeyLit (ik n) := trivial
theorem ik_ne {a b : Int} (h : a ≠ b) : ik b ≠ ik a := by intro e; cases e; exact h rfl

/-- how a pointer to a block's first cell is read: by the block's number -/
def Rk : Value → Option (DataW Unit × List MemPlace)
  | .pointer none => some (.nil, [])
  | .pointer (some ⟨b, 0, none⟩) => some (.lit (.int .i64 b), [])
  | _ => none
theorem Rk_none : Rk (.pointer none) = some (.nil, []) := rfl
theorem Rk_some (b : Nat) : Rk (.pointer (some ⟨b, 0, none⟩)) = some (.lit (.int .i64 b), []) := rfl
/-- the pointer, and its datum -/
def pv : Option Nat → Value
  | none => .pointer none
  | some b => .pointer (some ⟨b, 0, none⟩)
def pd : Option Nat → DataW Unit
  | none => .nil
  | some b => .lit (.int .i64 b)
theorem Rk_inv {v : Value} {o : Option Nat} {ps : List MemPlace} (h : Rk v = some (pd o, ps)) : v = pv o := by
  unfold Rk at h
  split at h
  · cases o with
    | none => rfl
    | some b => simp [pd] at h
  · rename_i b
    cases o with
    | none => simp [pd] at h
    | some c =>
      simp [pd] at h
      have : b = c := by omega
      subst this; rfl
  · cases h

abbrev KM := Int → Option Nat
structure Rel (D : DataW Unit) (K : KM) : Prop where
  at_ : ∀ n, D.atKey (ik n) .nil = pd (K n)
  has : ∀ n, Maps.has D (ik n) = (K n).isSome
theorem rel_empty : Rel (.map []) (fun _ => none) := ⟨fun _ => rfl, fun _ => rfl⟩
theorem rel_put {D : DataW Unit} {K : KM} (r : Rel D K) (hD : Maps.IsMap D) (n : Int) (b : Nat) :
    Rel (D.put (ik n) (.lit (.int .i64 b))) (fun k => if k = n then some b else K k) := by
  refine ⟨fun k => ?_, fun k => ?_⟩
  · by_cases hk : k = n
    · subst hk; simp only [if_pos]; rw [atKey_put_same hD (isKey k)]; rfl
    · simp only [if_neg hk]; rw [atKey_put_other (ik_ne (Ne.symm hk)), r.at_]
  · by_cases hk : k = n
    · subst hk; simp only [if_pos]; rw [has_put_same hD (isKey k)]; rfl
    · simp only [if_neg hk]; rw [has_put_other (ik_ne (Ne.symm hk)), r.has]

/-- one hold: its block, its key, was it freed? -/
abbrev Ho := Nat × Int × Bool
def dn : Bool → Int
  | true => 1
  | false => 0
def upd {α : Type} (f : Int → α) (n : Int) (x : α) : Int → α := fun k => if k = n then x else f k
theorem upd_same {α : Type} (f : Int → α) (n : Int) (x : α) : upd f n x n = x := by simp [upd]
theorem upd_other {α : Type} (f : Int → α) {n k : Int} (x : α) (h : k ≠ n) : upd f n x k = f k := by simp [upd, h]

/-- what is no part of Pins stays as it was -/
structure Kp (W W' : World) : Prop where
  size : W.heap.size ≤ W'.heap.size
  block : ∀ (j : Nat) (c : Array Value) (e : TypeId) (z : Nat × Nat), W.heap[j]? = some (.cells c e z) → e ≠ 64 → e ≠ 72 → e ≠ 79 → W'.heap[j]? = some (.cells c e z)
theorem Kp.refl (W : World) : Kp W W := ⟨Nat.le_refl _, fun _ _ _ _ h _ _ _ => h⟩
theorem Kp.chT {W1 W W' : World} {T : Nat → Prop} (h : Kp W1 W) (c : Ch T W W') (hT : ∀ (j : Nat) (cs : Array Value) (e : TypeId) (z : Nat × Nat), W.heap[j]? = some (.cells cs e z) → e ≠ 64 → e ≠ 72 → e ≠ 79 → ¬ T j) : Kp W1 W' :=
  ⟨Nat.le_trans h.size c.size, fun j cs e z hj h1 h2 h3 => c.obj (h.block j cs e z hj h1 h2 h3) (hT j cs e z (h.block j cs e z hj h1 h2 h3) h1 h2 h3)⟩
theorem Kp.ch {W1 W W' : World} (h : Kp W1 W) (c : Ch (fun _ => False) W W') : Kp W1 W' := h.chT c (fun _ _ _ _ _ _ _ _ h => h)
theorem Kp.trans {W1 W W' : World} (h : Kp W1 W) (k : Kp W W') : Kp W1 W' := ⟨Nat.le_trans h.size k.size, fun j cs e z hj h1 h2 h3 => k.block j cs e z (h.block j cs e z hj h1 h2 h3) h1 h2 h3⟩
theorem Kp.row {W W' : World} {base : Nat} {e : TypeId} {size n : Nat} {v : Value} {xs : List Value} (h : Kp W W') (hm : W.ownsRow base e size v n xs) (h1 : e ≠ 64) (h2 : e ≠ 72) (h3 : e ≠ 79) : W'.ownsRow base e size v n xs := by
  obtain ⟨g1, g2⟩ := hm
  refine ⟨g1, ?_⟩
  rcases g2 with g2 | ⟨g, cap, cur, hv, hg, hh, r⟩
  · exact Or.inl g2
  · exact Or.inr ⟨g, cap, cur, hv, hg, h.block g _ _ _ hh h1 h2 h3, r⟩

/-- Pins at block p (its map at block m), the lock's word l, what is held and shut, the holds H, at most N keys -/
structure ST (w0 w1 : World) (p m : Nat) (l : Int) (hd : Int → Int) (sh : Int → Bool) (H : List Ho) (N : Nat) (K : KM) (W : World) : Prop where
  obj : W.heap[p]? = some (.cells #[.int .i32 l, .int .u32 0, .map (some m)] 64)
  map : ∃ D, W.ownsMap Try.prog 2 Rk m N D ∧ Rel D K
  key : ∀ n b, K n = some b → w0.heap.size ≤ b ∧ W.heap[b]? = some (.cells #[.int .i64 n, .int .i64 (hd n), .bool (sh n)] 72)
  no : ∀ n, K n = none → hd n = 0 ∧ sh n = false
  hold : ∀ h ∈ H, w0.heap.size ≤ h.1 ∧ ∃ k, K h.2.1 = some k ∧ W.heap[h.1]? = some (.cells #[.pointer (some ⟨k, 0, none⟩), .int .u32 (dn h.2.2), .int .i32 0, .int .u32 0] 79)
  nodup : (H.map (·.1)).Nodup
  rng : ∀ n, 0 ≤ hd n ∧ hd n ≤ 1000
  ch : Ch (fun _ => False) w0 W
  far : w0.heap.size ≤ p ∧ w0.heap.size ≤ m
  keep : Kp w1 W
section
variable {w0 w1 : World} {p m : Nat} {l : Int} {hd : Int → Int} {sh : Int → Bool} {H : List Ho} {N : Nat} {K : KM} {W W' : World}
theorem ST.step (h : ST w0 w1 p m l hd sh H N K W) (c : Ch (fun _ => False) W W') : ST w0 w1 p m l hd sh H N K W' := by
  obtain ⟨D, hm, hr⟩ := h.map
  exact ⟨c.obj h.obj (fun h => h), ⟨D, c.ownsMap hm (fun h => h), hr⟩, fun n b hk => ⟨(h.key n b hk).1, c.obj (h.key n b hk).2 (fun h => h)⟩, h.no,
    fun x hx => by obtain ⟨h1, k, h2, h3⟩ := h.hold x hx; exact ⟨h1, k, h2, c.obj h3 (fun h => h)⟩, h.nodup, h.rng, h.ch.trans c (fun _ h _ => h), h.far, h.keep.ch c⟩
theorem ST.mono (h : ST w0 w1 p m l hd sh H N K W) {N' : Nat} (hN : N ≤ N') : ST w0 w1 p m l hd sh H N' K W := by
  obtain ⟨D, hm, hr⟩ := h.map
  exact ⟨h.obj, ⟨D, hm.mono hN, hr⟩, h.key, h.no, h.hold, h.nodup, h.rng, h.ch, h.far, h.keep⟩
theorem ST.rebase (h : ST w0 w1 p m l hd sh H N K W) : ST w0 W p m l hd sh H N K W := ⟨h.obj, h.map, h.key, h.no, h.hold, h.nodup, h.rng, h.ch, h.far, Kp.refl W⟩
/-- the map's block holds no cells -/
theorem ST.mne (h : ST w0 w1 p m l hd sh H N K W) {b : Nat} {c : Array Value} {e : TypeId} {z : Nat × Nat} (hb : W.heap[b]? = some (.cells c e z)) : m ≠ b := by
  rintro rfl
  obtain ⟨D, ⟨es, clock, hm, _⟩, _⟩ := h.map
  rw [hm] at hb; cases hb
theorem ST.setL (h : ST w0 w1 p m l hd sh H N K W) (l' : Int) : ST w0 w1 p m l' hd sh H N K (W.setCell ⟨p, 0, none⟩ (.int .i32 l')) := by
  obtain ⟨D, hm, hr⟩ := h.map
  have ne : ∀ {b : Nat} {c : Array Value} {e : TypeId} {z : Nat × Nat}, W.heap[b]? = some (.cells c e z) → e ≠ 64 → b ≠ p := fun hb he hp => by
    subst hp; rw [h.obj] at hb; cases hb; exact he rfl
  refine ⟨obj_setCell h.obj, ⟨D, hm.setCell (a := ⟨p, 0, none⟩) (h.mne h.obj) _, hr⟩, fun n b hk => ⟨(h.key n b hk).1, obj_setCell_other (h.key n b hk).2 (ne (h.key n b hk).2 (by decide))⟩, h.no,
    fun x hx => ?_, h.nodup, h.rng, h.ch.setCell (.inr h.far.1) _, h.far, h.keep.chT ((Ch.refl (fun j => j = p) W).setCell (p := ⟨p, 0, none⟩) (.inl rfl) _) (fun j cs e z hj h1 _ _ ht => by subst ht; rw [h.obj] at hj; cases hj; exact h1 rfl)⟩
  obtain ⟨h1, k, h2, h3⟩ := h.hold x hx
  exact ⟨h1, k, h2, obj_setCell_other h3 (ne h3 (by decide))⟩
/-- one key's block turns -/
theorem ST.setKey (h : ST w0 w1 p m l hd sh H N K W) {n : Int} {b : Nat} (hk : K n = some b) {x : Int} {s : Bool} (hx : 0 ≤ x ∧ x ≤ 1000) {T : Nat → Prop} (c : Ch T W W') (hT : ∀ j, T j → j = b)
    (hb : W'.heap[b]? = some (.cells #[.int .i64 n, .int .i64 x, .bool s] 72)) : ST w0 w1 p m l (upd hd n x) (upd sh n s) H N K W' := by
  obtain ⟨D, hm, hr⟩ := h.map
  have kb := (h.key n b hk).2
  have ne : ∀ {j : Nat} {cs : Array Value} {e : TypeId} {z : Nat × Nat}, W.heap[j]? = some (.cells cs e z) → e ≠ 72 → ¬ T j := fun hj he ht => by
    obtain rfl := hT _ ht; rw [kb] at hj; cases hj; exact he rfl
  refine ⟨c.obj h.obj (ne h.obj (by decide)), ⟨D, c.ownsMap hm (fun ht => h.mne kb (hT _ ht)), hr⟩, fun n' b' hk' => ⟨(h.key n' b' hk').1, ?_⟩, fun n' hn' => ?_, fun y hy => ?_, h.nodup, fun n' => ?_, h.ch.trans c (fun j ht hl => by obtain rfl := hT _ ht; have := (h.key n _ hk).1; omega), h.far, h.keep.chT c (fun j cs e z hj h1 h2 _ => ne hj h2)⟩
  · by_cases e : n' = n
    · subst e; rw [hk] at hk'; cases hk'; rw [upd_same, upd_same]; exact hb
    · rw [upd_other _ _ e, upd_other _ _ e]
      refine c.obj (h.key n' b' hk').2 (fun ht => ?_)
      obtain rfl := hT _ ht
      have h2 := (h.key n' _ hk').2
      rw [kb] at h2
      simp at h2
      exact e h2.1.symm
  · have : n' ≠ n := by rintro rfl; rw [hk] at hn'; cases hn'
    rw [upd_other _ _ this, upd_other _ _ this]; exact h.no n' hn'
  · obtain ⟨h1, k, h2, h3⟩ := h.hold y hy
    exact ⟨h1, k, h2, c.obj h3 (ne h3 (by decide))⟩
  · by_cases e : n' = n
    · subst e; rw [upd_same]; exact hx
    · rw [upd_other _ _ e]; exact h.rng n'
/-- a new key: its block was made, and laid into the map -/
theorem ST.newKey (h : ST w0 w1 p m l hd sh H N K W) {n : Int} {b : Nat} (hk : K n = none) (hbs : w0.heap.size ≤ b) (hb : W.heap[b]? = some (.cells #[.int .i64 n, .int .i64 0, .bool false] 72)) {D : DataW Unit}
    (c : W.mapTurned W' m) (hm : W'.ownsMap Try.prog 2 Rk m (N + 1) D) (hr : Rel D (fun k => if k = n then some b else K k)) : ST w0 w1 p m l hd sh H (N + 1) (fun k => if k = n then some b else K k) W' := by
  have ne : ∀ {j : Nat} {cs : Array Value} {e : TypeId} {z : Nat × Nat}, W.heap[j]? = some (.cells cs e z) → j ≠ m := fun hj e => h.mne hj e.symm
  refine ⟨obj_turned h.obj c (ne h.obj), ⟨D, hm, hr⟩, fun n' b' hk' => ?_, fun n' hn' => ?_, fun y hy => ?_, h.nodup, h.rng, h.ch.turned c (.inr h.far.2), h.far, ⟨Nat.le_trans h.keep.size c.grown.size, fun j cs e z hj h1 h2 h3 => obj_turned (h.keep.block j cs e z hj h1 h2 h3) c (ne (h.keep.block j cs e z hj h1 h2 h3))⟩⟩
  · by_cases e : n' = n
    · subst e
      rw [if_pos rfl] at hk'
      cases hk'
      rw [(h.no n' hk).1, (h.no n' hk).2]
      exact ⟨hbs, obj_turned hb c (ne hb)⟩
    · rw [if_neg e] at hk'
      exact ⟨(h.key n' b' hk').1, obj_turned (h.key n' b' hk').2 c (ne (h.key n' b' hk').2)⟩
  · by_cases e : n' = n
    · rw [if_pos e] at hn'; cases hn'
    · rw [if_neg e] at hn'; exact h.no n' hn'
  · obtain ⟨h1, k, h2, h3⟩ := h.hold y hy
    refine ⟨h1, k, ?_, obj_turned h3 c (ne h3)⟩
    by_cases e : y.2.1 = n
    · rw [e, hk] at h2; cases h2
    · rw [if_neg e]; exact h2
/-- a new hold -/
theorem ST.newHold (h : ST w0 w1 p m l hd sh H N K W) {n : Int} {k : Nat} (hk : K n = some k) :
    ST w0 w1 p m l hd sh (H ++ [(W.heap.size, n, false)]) N K (W.alloc (.cells #[.pointer (some ⟨k, 0, none⟩), .int .u32 0, .int .i32 0, .int .u32 0] 79)) := by
  have h' := h.step ((Ch.refl (fun _ => False) W).alloc (.cells #[.pointer (some ⟨k, 0, none⟩), .int .u32 0, .int .i32 0, .int .u32 0] 79))
  refine ⟨h'.obj, h'.map, h'.key, h'.no, fun x hx => ?_, ?_, h'.rng, h'.ch, h'.far, h'.keep⟩
  · rcases List.mem_append.1 hx with hx | hx
    · exact h'.hold x hx
    · simp at hx; subst hx
      exact ⟨h.ch.size, k, hk, obj_new _ _⟩
  · rw [List.map_append]
    refine List.nodup_append.2 ⟨h.nodup, by simp, ?_⟩
    rintro a ha b hb rfl
    simp at hb
    obtain ⟨x, hx, rfl⟩ := List.mem_map.1 ha
    obtain ⟨_, _, _, h3⟩ := h.hold x hx
    have := lt_of_obj h3
    omega
/-- a hold is freed -/
theorem ST.freed (h : ST w0 w1 p m l hd sh H N K W) {i : Nat} (hi : i < H.length) {k : Nat} (hk : K H[i].2.1 = some k) (h0 : 0 ≤ hd H[i].2.1 + -1) (c : Ch (fun b => b = H[i].1 ∨ b = k) W W')
    (hx : W'.heap[H[i].1]? = some (.cells #[.pointer (some ⟨k, 0, none⟩), .int .u32 1, .int .i32 0, .int .u32 0] 79)) (hb : W'.heap[k]? = some (.cells #[.int .i64 H[i].2.1, .int .i64 (hd H[i].2.1 + -1), .bool (sh H[i].2.1)] 72)) :
    ST w0 w1 p m l (upd hd H[i].2.1 (hd H[i].2.1 + -1)) sh (H.set i (H[i].1, H[i].2.1, true)) N K W' := by
  obtain ⟨D, hm, hr⟩ := h.map
  have kb := (h.key _ k hk).2
  obtain ⟨fx, k', hk', xb⟩ := h.hold H[i] (List.getElem_mem hi)
  rw [hk] at hk'; cases hk'
  have ne : ∀ {j : Nat} {cs : Array Value} {e : TypeId} {z : Nat × Nat}, W.heap[j]? = some (.cells cs e z) → e ≠ 72 → e ≠ 79 → ¬ (j = H[i].1 ∨ j = k) := fun hj he he' ht => by
    rcases ht with rfl | rfl
    · rw [xb] at hj; cases hj; exact he' rfl
    · rw [kb] at hj; cases hj; exact he rfl
  refine ⟨c.obj h.obj (ne h.obj (by decide) (by decide)), ⟨D, c.ownsMap hm (fun ht => by rcases ht with e | e; exact h.mne xb e; exact h.mne kb e), hr⟩, fun n' b' hk' => ⟨(h.key n' b' hk').1, ?_⟩, fun n' hn' => ?_, fun y hy => ?_, ?_, fun n' => ?_,
    h.ch.trans c (fun j ht hl => by have := (h.key _ _ hk).1; rcases ht with rfl | rfl <;> omega), h.far, h.keep.chT c (fun j cs e z hj _ h2 h3 => ne hj h2 h3)⟩
  · by_cases e : n' = H[i].2.1
    · rw [e] at hk' ⊢; rw [hk] at hk'; cases hk'; rw [upd_same]; exact hb
    · rw [upd_other _ _ e]
      refine c.obj (h.key n' b' hk').2 (fun ht => ?_)
      have h2 := (h.key n' _ hk').2
      rcases ht with rfl | rfl
      · rw [xb] at h2; cases h2
      · rw [kb] at h2; simp at h2; exact e h2.1.symm
  · have : n' ≠ H[i].2.1 := by rintro rfl; rw [hk] at hn'; cases hn'
    rw [upd_other _ _ this]; exact h.no n' hn'
  · obtain ⟨j, hj, hyj⟩ := List.mem_iff_getElem.1 hy
    rw [List.length_set] at hj
    by_cases hji : i = j
    · subst hji
      rw [List.getElem_set_self] at hyj
      subst hyj
      exact ⟨fx, k, hk, hx⟩
    · rw [List.getElem_set_ne hji] at hyj
      subst hyj
      obtain ⟨h1, k2, h2, h3⟩ := h.hold H[j] (List.getElem_mem hj)
      refine ⟨h1, k2, h2, c.obj h3 (fun ht => ?_)⟩
      rcases ht with ht | ht
      · have hp := List.pairwise_iff_getElem.1 h.nodup
        simp only [List.length_map, List.getElem_map] at hp
        rcases Nat.lt_or_gt_of_ne hji with hlt | hlt
        · exact hp i j hi hj hlt ht.symm
        · exact hp j i hj hi hlt ht
      · rw [ht, kb] at h3; cases h3
  · have : (H.set i (H[i].1, H[i].2.1, true)).map (·.1) = H.map (·.1) := by
      refine List.ext_getElem (by simp) (fun j h1 h2 => ?_)
      simp only [List.getElem_map]
      by_cases e : i = j
      · subst e; simp
      · rw [List.getElem_set_ne e]
    rw [this]; exact h.nodup
  · have := h.rng n'
    by_cases e : n' = H[i].2.1
    · rw [e, upd_same]; rw [e] at this; omega
    · rw [upd_other _ _ e]; exact this
end
end Go.Proofs.Ytklnbfelcpnbeaa
