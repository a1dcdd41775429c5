/- Pins, as they are told by their holds alone: how often a key is held is how many of its holds were not freed. Conditions: none. -/
import Derived.Test.YtklnbfelcpnbeaaO
namespace Go.Proofs.Ytklnbfelcpnbeaa
open Go.RowKit Go.Maps Go.MuLone

/-- how many holds of a key were not freed -/
def cnt (n : Int) : List Ho → Int
  | [] => 0
  | h :: r => (if h.2.1 = n ∧ h.2.2 = false then 1 else 0) + cnt n r
theorem cnt_append (n : Int) (A B : List Ho) : cnt n (A ++ B) = cnt n A + cnt n B := by
  induction A with
  | nil => simp [cnt]
  | cons h r ih => simp only [List.cons_append, cnt, ih]; omega
theorem cnt_nonneg (n : Int) (A : List Ho) : 0 ≤ cnt n A := by
  induction A with
  | nil => simp [cnt]
  | cons h r ih => simp only [cnt]; split <;> omega
theorem cnt_le (n : Int) (A : List Ho) : cnt n A ≤ A.length := by
  induction A with
  | nil => simp [cnt]
  | cons h r ih => simp only [cnt, List.length_cons]; split <;> omega
theorem cnt_set (n : Int) (A : List Ho) (i : Nat) (hi : i < A.length) (hf : A[i].2.2 = false) : cnt n (A.set i (A[i].1, A[i].2.1, true)) = cnt n A - (if A[i].2.1 = n then 1 else 0) := by
  induction A generalizing i with
  | nil => simp at hi
  | cons h r ih =>
    cases i with
    | zero =>
      simp only [List.getElem_cons_zero] at hf
      simp only [List.set_cons_zero, List.getElem_cons_zero, cnt, hf]
      by_cases e : h.2.1 = n <;> simp [e] <;> omega
    | succ i =>
      simp only [List.getElem_cons_succ] at hf
      have := ih i (by simpa using hi) hf
      simp only [List.set_cons_succ, List.getElem_cons_succ, cnt, this]
      omega
theorem cnt_pos (A : List Ho) (i : Nat) (hi : i < A.length) (hf : A[i].2.2 = false) : 0 < cnt A[i].2.1 A := by
  induction A generalizing i with
  | nil => simp at hi
  | cons h r ih =>
    cases i with
    | zero =>
      simp only [List.getElem_cons_zero] at hf ⊢
      have := cnt_nonneg h.2.1 r
      simp [cnt, hf]; omega
    | succ i =>
      simp only [List.getElem_cons_succ] at hf ⊢
      have := ih i (by simpa using hi) hf
      simp only [cnt]; split <;> omega
theorem upd_push (A : List Ho) (x : Nat) (n : Int) : upd (fun k => cnt k A) n (cnt n A + 1) = fun k => cnt k (A ++ [(x, n, false)]) := by
  funext k
  rw [cnt_append]
  by_cases e : k = n
  · subst e; rw [upd_same]; simp [cnt]
  · rw [upd_other _ _ e]; simp [cnt, Ne.symm e]
theorem upd_free (A : List Ho) (i : Nat) (hi : i < A.length) (hf : A[i].2.2 = false) : upd (fun k => cnt k A) A[i].2.1 (cnt A[i].2.1 A + -1) = fun k => cnt k (A.set i (A[i].1, A[i].2.1, true)) := by
  funext k
  rw [cnt_set k A i hi hf]
  by_cases e : k = A[i].2.1
  · subst e; rw [upd_same]; simp; omega
  · rw [upd_other _ _ e, if_neg (Ne.symm e)]; omega

/-- Pins told by their holds; those behind the first ones (H0) lie in a slice v -/
structure SG (w0 : World) (p m : Nat) (sh : Int → Bool) (H0 H : List Ho) (N : Nat) (v : Value) (W : World) : Prop where
  st : ∃ K, ST w0 W p m 0 (fun n => cnt n (H0 ++ H)) sh (H0 ++ H) N K W
  own : W.ownsRow w0.heap.size 26 1 v H.length (hps H)
/-- Pins behind a call, and what was not theirs as it was -/
def SK (w0 W : World) (p m : Nat) (sh : Int → Bool) (A : List Ho) (N : Nat) (W' : World) : Prop := ∃ K, ST w0 W p m 0 (fun n => cnt n A) sh A N K W'
section
variable {w0 : World} {p m N : Nat} {sh : Int → Bool} {A H0 H : List Ho} {v : Value} {W W' : World} {n : Int}
theorem SG.sk (h : SG w0 p m sh H0 H N v W) : SK w0 W p m sh (H0 ++ H) N W := h.st
theorem SK.ch (h : SK w0 W p m sh A N W') : Ch (fun _ => False) w0 W' := by obtain ⟨K, h⟩ := h; exact h.ch
theorem SK.size (h : SK w0 W p m sh A N W') : W.heap.size ≤ W'.heap.size := by obtain ⟨K, h⟩ := h; exact h.keep.size
theorem SG.keep (h : SG w0 p m sh H0 H N v W) {sh' : Int → Bool} {N' : Nat} {H' : List Ho} (k : SK w0 W p m sh' (H0 ++ H') N' W') (hh : hps H' = hps H) (hl : H'.length = H.length) : SG w0 p m sh' H0 H' N' v W' := by
  obtain ⟨K, k⟩ := k
  exact ⟨⟨K, k.rebase⟩, by rw [hh, hl]; exact k.keep.row h.own (by decide) (by decide) (by decide)⟩
theorem SG.step (h : SG w0 p m sh H0 H N v W) (c : Ch (fun _ => False) W W') : SG w0 p m sh H0 H N v W' := by
  obtain ⟨K, k⟩ := h.st
  exact h.keep ⟨K, k.step c⟩ rfl rfl
theorem SG.own1 (h : SG w0 p m sh H0 H N v W) {sh' : Int → Bool} {N' : Nat} (k : SK w0 W p m sh' A N' W') (o : Obj) : (W'.alloc o).ownsRow w0.heap.size 26 1 v H.length (hps H) := by
  obtain ⟨K, k⟩ := k
  exact (k.keep.row h.own (by decide) (by decide) (by decide)).alloc o
theorem SG.push {N' : Nat} {x : Nat} {b : Bool} {v' : Value} {W1 W2 : World} {o : Obj} (h : SG w0 p m sh H0 H N v W) (k : SK w0 W p m sh (H0 ++ H ++ [(x, n, b)]) N' W1)
    (hg : (W1.alloc o).grownBy W2 v.ownBlock) (own : W2.ownsRow w0.heap.size 26 1 v' (H.length + 1) (hps H ++ [.pointer (some ⟨x, 0, none⟩)])) : SG w0 p m sh H0 (H ++ [(x, n, b)]) N' v' W2 := by
  have own1 := h.own1 k o
  obtain ⟨K, k⟩ := k
  rw [List.append_assoc] at k
  refine ⟨⟨K, ST.other (k.step ((Ch.refl _ W1).alloc o)) (T := fun j => v.ownBlock = some j) ((Ch.refl _ _).grown hg (fun j e => .inl e)) (fun j ht _ => ?_)⟩, ?_⟩
  · obtain ⟨h1, cs, z, h2⟩ := own_obj own1 ht
    exact ⟨h1, cs, 26, z, h2, by decide, by decide, by decide⟩
  · rw [List.length_append, hps_append]; exact own
theorem SG.form (h : SG w0 p m sh H0 H N v W) (hn : 0 < H.length) :
    ∃ g cap, v = .slice (some ⟨g, 0, none⟩) H.length cap ∧ ∀ j (hj : j < H.length), W.cell? ⟨g, j, none⟩ = some (.pointer (some ⟨H[j].1, 0, none⟩)) := by
  have hc := fun g hg j u hu => h.own.cells (g := g) hg j u hu
  rcases h.own.2 with ⟨rfl, hl⟩ | ⟨g, cap, cur, rfl, _⟩
  · omega
  · refine ⟨g, cap, rfl, fun j hj => ?_⟩
    have := hc g rfl j (.pointer (some ⟨H[j].1, 0, none⟩)) (by simp [hps, hj])
    have e : (⟨g, 0, none⟩ : Addr).add j = ⟨g, j, none⟩ := by unfold Addr.add; split <;> simp_all
    rwa [e] at this

theorem SK.rebase (h : SK w0 W p m sh A N W') : SK w0 W' p m sh A N W' := by obtain ⟨K, h⟩ := h; exact ⟨K, h.rebase⟩
theorem SK.after (h : SK w0 W p m sh A N W') {W2 : World} {sh' : Int → Bool} {A' : List Ho} {N' : Nat} (k : SK w0 W' p m sh' A' N' W2) : SK w0 W p m sh' A' N' W2 := by
  obtain ⟨K, h⟩ := h
  obtain ⟨K', k⟩ := k
  exact ⟨K', k.obj, k.map, k.key, k.no, k.hold, k.nodup, k.rng, k.ch, k.far, h.keep.trans k.keep⟩
theorem g_new (w : World) : Calls Try.prog 10 #[] w fun e w' => ∃ p m, e = .returned (.pointer (some ⟨p, 0, none⟩)) ∧ SK w w p m (fun _ => false) [] 0 w' :=
  (new_any w).mono fun _ _ ⟨p, m, he, h⟩ => ⟨p, m, he, _, h⟩
theorem g_take_yes (h : SK w0 W p m sh A N W') (hw : (Lit.int .i64 n).wf = true) (hN : N < 1000000) (hs : sh n = false) (hA : A.length < 1000) :
    Calls Try.prog 11 #[.pointer (some ⟨p, 0, none⟩), .int .i64 n] W' fun e w' => ∃ x, e = .returned (.tuple #[.pointer (some ⟨x, 0, none⟩), .int .i64 0]) ∧ SK w0 W p m sh (A ++ [(x, n, false)]) (N + 1) w' := by
  obtain ⟨K, h⟩ := h
  refine (take_yes h hw hN hs (by have := cnt_le n A; omega)).mono ?_
  rintro e w' ⟨x, K', he, h'⟩
  rw [upd_push A x n] at h'
  exact ⟨x, he, K', h'⟩
theorem g_take_no (h : SK w0 W p m sh A N W') (hw : (Lit.int .i64 n).wf = true) (hN : N < 1000000) (hs : sh n = true) :
    Calls Try.prog 11 #[.pointer (some ⟨p, 0, none⟩), .int .i64 n] W' fun e w' => e = .returned (.tuple #[.pointer none, .int .i64 15]) ∧ SK w0 W p m sh A (N + 1) w' := by
  obtain ⟨K, h⟩ := h
  exact (take_no h hw hN hs).mono fun _ _ ⟨he, K', h'⟩ => ⟨he, K', h'⟩
theorem g_held (h : SK w0 W p m sh A N W') (hw : (Lit.int .i64 n).wf = true) :
    Calls Try.prog 13 #[.pointer (some ⟨p, 0, none⟩), .int .i64 n] W' fun e w' => e = .returned (.int .i64 (cnt n A)) ∧ SK w0 W p m sh A N w' := by
  obtain ⟨K, h⟩ := h
  exact (held_any h hw).mono fun _ _ ⟨he, h'⟩ => ⟨he, K, h'⟩
theorem g_shut_no (h : SK w0 W p m sh A N W') (hw : (Lit.int .i64 n).wf = true) (hN : N < 1000000) (hp : 0 < cnt n A) :
    Calls Try.prog 14 #[.pointer (some ⟨p, 0, none⟩), .int .i64 n] W' fun e w' => e = .returned (.bool false) ∧ SK w0 W p m sh A (N + 1) w' := by
  obtain ⟨K, h⟩ := h
  exact (shut_no h hw hN hp).mono fun _ _ ⟨he, K', h'⟩ => ⟨he, K', h'⟩
theorem g_shut_yes (h : SK w0 W p m sh A N W') (hw : (Lit.int .i64 n).wf = true) (hN : N < 1000000) (hp : cnt n A = 0) :
    Calls Try.prog 14 #[.pointer (some ⟨p, 0, none⟩), .int .i64 n] W' fun e w' => e = .returned (.bool true) ∧ SK w0 W p m (upd sh n true) A (N + 1) w' := by
  obtain ⟨K, h⟩ := h
  exact (shut_yes h hw hN hp).mono fun _ _ ⟨he, K', h'⟩ => ⟨he, K', h'⟩
theorem g_free_yes (h : SK w0 W p m sh A N W') {i : Nat} (hi : i < A.length) (hf : A[i].2.2 = false) :
    Calls Try.prog 12 #[.pointer (some ⟨A[i].1, 0, none⟩)] W' fun e w' => e = .returned (.bool true) ∧ SK w0 W p m sh (A.set i (A[i].1, A[i].2.1, true)) N w' := by
  obtain ⟨K, h⟩ := h
  refine (free_yes h hi hf (cnt_pos A i hi hf)).mono ?_
  rintro e w' ⟨he, h'⟩
  rw [upd_free A i hi hf] at h'
  exact ⟨he, K, h'⟩
theorem g_free_no (h : SK w0 W p m sh A N W') {i : Nat} (hi : i < A.length) (hf : A[i].2.2 = true) :
    Calls Try.prog 12 #[.pointer (some ⟨A[i].1, 0, none⟩)] W' fun e w' => e = .returned (.bool false) ∧ SK w0 W p m sh A N w' := by
  obtain ⟨K, h⟩ := h
  exact (free_no h hi hf).mono fun _ _ ⟨he, h'⟩ => ⟨he, K, h'⟩
theorem g_key (h : SK w0 W p m sh A N W') {i : Nat} (hi : i < A.length) : Calls Try.prog 16 #[.pointer (some ⟨A[i].1, 0, none⟩)] W' fun e w' => e = .returned (.int .i64 A[i].2.1) ∧ W' = w' := by
  obtain ⟨K, h⟩ := h
  exact hkey_any h hi
end
end Go.Proofs.Ytklnbfelcpnbeaa
