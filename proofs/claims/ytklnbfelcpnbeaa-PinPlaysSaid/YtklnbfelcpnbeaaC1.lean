/- What the calls on Pins do: New, of, Take, Held, Shut, Free, Key. Conditions: the Pins lie in memory as New laid them. -/
import Derived.Test.YtklnbfelcpnbeaaSt
namespace Go.Proofs.Ytklnbfelcpnbeaa
open Go.RowKit Go.Maps Go.ChangeMaps Go.WideMaps Go.MuLone

theorem new_any (w : World) : Calls Try.prog 10 #[] w fun e w' => ∃ p m, e = .returned (.pointer (some ⟨p, 0, none⟩)) ∧ ST w w p m 0 (fun _ => 0) (fun _ => false) [] 0 (fun _ => none) w' := by
  have hmm := @run_makeMap Try.prog
  go_enter Try.func10, Try.ntmps10
  go_wp2
  go_ret
  refine ⟨w.heap.size + 1, w.heap.size, rfl, ?_⟩
  have o := obj_new (w.alloc (.map #[] 0)) (.cells #[.int .i32 0, .int .u32 0, .map (some w.heap.size)] 64)
  rw [show (w.alloc (.map #[] 0)).heap.size = w.heap.size + 1 by simp] at o
  exact ⟨o, ⟨_, (World.ownsMap_made w Try.prog 2 Rk).alloc _, rel_empty⟩, fun n b h => (by cases h), fun n _ => ⟨rfl, rfl⟩, fun h hh => (by cases hh), by simp, fun n => (by omega), ((Ch.refl _ w).alloc _).alloc _, ⟨by omega, by omega⟩, (Kp.refl w).ch (((Ch.refl _ w).alloc _).alloc _)⟩

section
variable {w0 w1 : World} {p m : Nat} {l : Int} {hd : Int → Int} {sh : Int → Bool} {H : List Ho} {N : Nat} {K : KM} {w : World} {n : Int}
theorem ST.look (h : ST w0 w1 p m l hd sh H N K w) (hw : (Lit.int .i64 n).wf = true) : (Instr.lookup 55 (.map (some m)) (.int .i64 n) true).run Try.prog w = .ok (.tuple #[pv (K n), .bool (K n).isSome]) w := by
  obtain ⟨D, hm, hr⟩ := h.map
  obtain ⟨v, ps, hrun, hv⟩ := hm.look_ok law2 Try.underlying55 (zero65 w) Rk_none (keyOf_int_mk Try.underlying2 hw)
  rw [hr.at_] at hv
  rw [hr.has] at hrun
  rw [hrun, Rk_inv hv]

set_option maxRecDepth 100000 in
set_option maxHeartbeats 800000 in
theorem of_any (h : ST w0 w1 p m l hd sh H N K w) (hw : (Lit.int .i64 n).wf = true) (hN : N < 1000000) :
    Calls Try.prog 25 #[.pointer (some ⟨p, 0, none⟩), .int .i64 n] w fun e w' => ∃ b K', e = .returned (.pointer (some ⟨b, 0, none⟩)) ∧ K' n = some b ∧ ST w0 w1 p m l hd sh H (N + 1) K' w' := by
  have hl := h.look hw
  have c2 := cell_of (off := 2) (v := .map (some m)) h.obj rfl
  have HS := Lib.hid h
  clear h
  cases hk : K n with
  | some b =>
    rw [hk] at hl
    have HK := Lib.hid hk
    clear hk
    simp only [pv, Option.isSome_some] at hl
    go_enter Try.func25, Try.ntmps25
    go_wp2
    go_ret
    exact ⟨b, K, rfl, HK.out, HS.out.mono (Nat.le_succ _)⟩
  | none =>
    rw [hk] at hl
    simp only [pv, Option.isSome_none] at hl
    have HK := Lib.hid hk
    have h1 := HS.out.step ((Ch.refl (fun _ => False) w).alloc (.cells #[.int .i64 n, .int .i64 0, .bool false] 72))
    obtain ⟨D, hm, hr⟩ := h1.map
    have HR := Lib.hid hr
    have H1 := Lib.hid h1
    have c3 := cell_of (off := 2) (v := .map (some m)) h1.obj rfl
    clear hk h1 hr
    go_enter Try.func25, Try.ntmps25
    go_wp2_with (at_mapUpdate; refine wpList_mapUpdate_in _ rfl _ _ _ 55 rfl 2 65 law2 Try.underlying55 Rk m N D rfl hm (by unfold maxLen; omega) _ _ _ rfl rfl (keyOf_int_mk Try.underlying2 hw) _ [] (Rk_some w.heap.size) ?_; intro w1 hown1 hturn1)
    go_ret
    exact ⟨w.heap.size, _, rfl, by simp, H1.out.newKey HK.out HS.out.ch.size (obj_new _ _) hturn1 hown1 (rel_put HR.out hm.isMap n _)⟩

theorem upd_id {α : Type} (f : Int → α) (n : Int) : upd f n (f n) = f := by funext k; unfold upd; split; rename_i h; rw [h]; rfl
theorem ST.p0 (h : ST w0 w1 p m l hd sh H N K w) : w.cell? ⟨p, 0, none⟩ = some (.int .i32 l) := cell_of h.obj rfl
theorem ST.z0 (h : ST w0 w1 p m l hd sh H N K w) : w.frozen? ⟨p, 0, none⟩ = false := frozen_of h.obj
theorem ST.k1 (h : ST w0 w1 p m l hd sh H N K w) {b : Nat} (hk : K n = some b) : w.cell? ⟨b, 1, none⟩ = some (.int .i64 (hd n)) := cell_of (h.key n b hk).2 rfl
theorem ST.k2 (h : ST w0 w1 p m l hd sh H N K w) {b : Nat} (hk : K n = some b) : w.cell? ⟨b, 2, none⟩ = some (.bool (sh n)) := cell_of (h.key n b hk).2 rfl
theorem ST.kz (h : ST w0 w1 p m l hd sh H N K w) {b : Nat} (hk : K n = some b) (o : Nat) : w.frozen? ⟨b, o, none⟩ = false := frozen_of (h.key n b hk).2

set_option maxRecDepth 100000 in
set_option maxHeartbeats 1600000 in
theorem take_yes (h : ST w0 w1 p m 0 hd sh H N K w) (hw : (Lit.int .i64 n).wf = true) (hN : N < 1000000) (hs : sh n = false) (hb : hd n < 1000) :
    Calls Try.prog 11 #[.pointer (some ⟨p, 0, none⟩), .int .i64 n] w fun e w' => ∃ x K', e = .returned (.tuple #[.pointer (some ⟨x, 0, none⟩), .int .i64 0]) ∧ ST w0 w1 p m 0 (upd hd n (hd n + 1)) sh (H ++ [(x, n, false)]) (N + 1) K' w' := by
  have c0 := h.p0
  have z0 := h.z0
  have HB := Lib.hid (h.rng n)
  have HS := Lib.hid (h.setL 1)
  have HW := Lib.hid hw
  clear h hw
  go_enter_defers Try.func11, Try.ntmps11
  go_wp2_with (go_at_call 23; refine (lock_free muLib ⟨p, 0, none⟩ _ c0 z0).mono ?_; rintro e w' ⟨rfl, rfl⟩)
  refine (of_any HS.out HW.out hN).mono ?_
  rintro e w2 ⟨b, K', rfl, hk, h2⟩
  have c1 := h2.k1 hk
  have c2 := h2.k2 hk
  rw [hs] at c2
  have z1 := h2.kz hk 1
  have H2 := Lib.hid h2
  have HK := Lib.hid hk
  clear h2 hk HS
  go_wp2_with (go_at_call 26; refine (add_any c1 z1 (by have := HB.out; omega)).mono ?_; rintro e w' ⟨rfl, rfl⟩)
  have h3 := H2.out.setKey HK.out (x := hd n + 1) (s := sh n) (by have := HB.out; omega) ((Ch.refl (fun j => j = b) w2).setCell (p := ⟨b, 1, none⟩) (.inl rfl) (.int .i64 (hd n + 1))) (fun _ h => h) (obj_setCell (H2.out.key n b HK.out).2)
  rw [upd_id sh] at h3
  have h4 := h3.newHold HK.out
  have e5 : (w2.setCell ⟨b, 1, none⟩ (.int .i64 (hd n + 1))).heap.size = w2.heap.size := by simp
  rw [e5] at h4
  refine leaves_cons (f := 24) (args := #[.pointer (some ⟨p, 0, none⟩)]) (by simp) (by simp [go_sem]) ?_
  refine (unlock_deferred muLib ⟨p, 0, none⟩ .returning _ h4.p0 h4.z0).mono ?_
  rintro e u' w'' ⟨rfl, rfl, rfl⟩
  exact ⟨_, results_tmp2 rfl _ _ _, w2.heap.size, K', rfl, h4.setL 0⟩

set_option maxRecDepth 100000 in
set_option maxHeartbeats 1600000 in
theorem take_no (h : ST w0 w1 p m 0 hd sh H N K w) (hw : (Lit.int .i64 n).wf = true) (hN : N < 1000000) (hs : sh n = true) :
    Calls Try.prog 11 #[.pointer (some ⟨p, 0, none⟩), .int .i64 n] w fun e w' => e = .returned (.tuple #[.pointer none, .int .i64 15]) ∧ ∃ K', ST w0 w1 p m 0 hd sh H (N + 1) K' w' := by
  have c0 := h.p0
  have z0 := h.z0
  have HS := Lib.hid (h.setL 1)
  have HW := Lib.hid hw
  clear h hw
  go_enter_defers Try.func11, Try.ntmps11
  go_wp2_with (go_at_call 23; refine (lock_free muLib ⟨p, 0, none⟩ _ c0 z0).mono ?_; rintro e w' ⟨rfl, rfl⟩)
  refine (of_any HS.out HW.out hN).mono ?_
  rintro e w2 ⟨b, K', rfl, hk, h2⟩
  have c2 := h2.k2 hk
  rw [hs] at c2
  have H2 := Lib.hid h2
  clear h2 hk HS
  go_wp2_with fail
  refine leaves_cons (f := 24) (args := #[.pointer (some ⟨p, 0, none⟩)]) (by simp) (by simp [go_sem]) ?_
  refine (unlock_deferred muLib ⟨p, 0, none⟩ .returning _ H2.out.p0 H2.out.z0).mono ?_
  rintro e u' w'' ⟨rfl, rfl, rfl⟩
  exact ⟨_, results_tmp2 rfl _ _ _, rfl, K', H2.out.setL 0⟩

set_option maxRecDepth 100000 in
set_option maxHeartbeats 1600000 in
theorem held_any (h : ST w0 w1 p m 0 hd sh H N K w) (hw : (Lit.int .i64 n).wf = true) :
    Calls Try.prog 13 #[.pointer (some ⟨p, 0, none⟩), .int .i64 n] w fun e w' => e = .returned (.int .i64 (hd n)) ∧ ST w0 w1 p m 0 hd sh H N K w' := by
  have c0 := h.p0
  have z0 := h.z0
  have h1 := h.setL 1
  have HR := Lib.hid (h.rng n)
  have hl := h1.look hw
  have c2 := cell_of (off := 2) (v := .map (some m)) h1.obj rfl
  have HS := Lib.hid h1
  clear h hw
  cases hk : K n with
  | some b =>
    rw [hk] at hl
    simp only [pv, Option.isSome_some] at hl
    have c1 := h1.k1 hk
    have hwr : IntKind.i64.wrap (hd n) = hd n := IntWalk.i64_in _ (by have := HR.out; omega)
    clear hk h1
    go_enter_defers Try.func13, Try.ntmps13
    go_wp2_with (first
      | (go_at_call 23; refine (lock_free muLib ⟨p, 0, none⟩ _ c0 z0).mono ?_; rintro e w' ⟨rfl, rfl⟩)
      | (go_at_call 29; refine (load_any c1).mono ?_; rintro e w' ⟨rfl, rfl⟩))
    refine leaves_cons (f := 24) (args := #[.pointer (some ⟨p, 0, none⟩)]) (by simp) (by simp [go_sem]) ?_
    refine (unlock_deferred muLib ⟨p, 0, none⟩ .returning _ HS.out.p0 HS.out.z0).mono ?_
    rintro e u' w'' ⟨rfl, rfl, rfl⟩
    exact ⟨_, results_tmp rfl _ _ _, rfl, HS.out.setL 0⟩
  | none =>
    rw [hk] at hl
    simp only [pv, Option.isSome_none] at hl
    have hz := (h1.no n hk).1
    clear hk h1
    go_enter_defers Try.func13, Try.ntmps13
    go_wp2_with (first
      | (go_at_call 23; refine (lock_free muLib ⟨p, 0, none⟩ _ c0 z0).mono ?_; rintro e w' ⟨rfl, rfl⟩))
    refine leaves_cons (f := 24) (args := #[.pointer (some ⟨p, 0, none⟩)]) (by simp) (by simp [go_sem]) ?_
    refine (unlock_deferred muLib ⟨p, 0, none⟩ .returning _ HS.out.p0 HS.out.z0).mono ?_
    rintro e u' w'' ⟨rfl, rfl, rfl⟩
    refine ⟨_, results_tmp rfl _ _ _, ?_, HS.out.setL 0⟩
    exact congrArg (fun z => Ending.returned (.int .i64 z)) hz.symm

set_option maxRecDepth 100000 in
set_option maxHeartbeats 1600000 in
theorem shut_no (h : ST w0 w1 p m 0 hd sh H N K w) (hw : (Lit.int .i64 n).wf = true) (hN : N < 1000000) (hp : 0 < hd n) :
    Calls Try.prog 14 #[.pointer (some ⟨p, 0, none⟩), .int .i64 n] w fun e w' => e = .returned (.bool false) ∧ ∃ K', ST w0 w1 p m 0 hd sh H (N + 1) K' w' := by
  have c0 := h.p0
  have z0 := h.z0
  have HS := Lib.hid (h.setL 1)
  have HW := Lib.hid hw
  clear h hw
  go_enter_defers Try.func14, Try.ntmps14
  go_wp2_with (go_at_call 23; refine (lock_free muLib ⟨p, 0, none⟩ _ c0 z0).mono ?_; rintro e w' ⟨rfl, rfl⟩)
  refine (of_any HS.out HW.out hN).mono ?_
  rintro e w2 ⟨b, K', rfl, hk, h2⟩
  have c1 := h2.k1 hk
  have H2 := Lib.hid h2
  clear h2 hk HS
  go_wp2_with (go_at_call 29; refine (load_any c1).mono ?_; rintro e w' ⟨rfl, rfl⟩)
  refine leaves_cons (f := 24) (args := #[.pointer (some ⟨p, 0, none⟩)]) (by simp) (by simp [go_sem]) ?_
  refine (unlock_deferred muLib ⟨p, 0, none⟩ .returning _ H2.out.p0 H2.out.z0).mono ?_
  rintro e u' w'' ⟨rfl, rfl, rfl⟩
  exact ⟨_, results_tmp rfl _ _ _, rfl, K', H2.out.setL 0⟩

set_option maxRecDepth 100000 in
set_option maxHeartbeats 1600000 in
theorem shut_yes (h : ST w0 w1 p m 0 hd sh H N K w) (hw : (Lit.int .i64 n).wf = true) (hN : N < 1000000) (hp : hd n = 0) :
    Calls Try.prog 14 #[.pointer (some ⟨p, 0, none⟩), .int .i64 n] w fun e w' => e = .returned (.bool true) ∧ ∃ K', ST w0 w1 p m 0 hd (upd sh n true) H (N + 1) K' w' := by
  have c0 := h.p0
  have z0 := h.z0
  have HS := Lib.hid (h.setL 1)
  have HW := Lib.hid hw
  clear h hw
  go_enter_defers Try.func14, Try.ntmps14
  go_wp2_with (go_at_call 23; refine (lock_free muLib ⟨p, 0, none⟩ _ c0 z0).mono ?_; rintro e w' ⟨rfl, rfl⟩)
  refine (of_any HS.out HW.out hN).mono ?_
  rintro e w2 ⟨b, K', rfl, hk, h2⟩
  have c1 := h2.k1 hk
  rw [hp] at c1
  have c2 := h2.k2 hk
  have z2 := h2.kz hk 2
  have H2 := Lib.hid h2
  have HK := Lib.hid hk
  clear h2 hk HS
  go_wp2_with (go_at_call 29; refine (load_any c1).mono ?_; rintro e w' ⟨rfl, rfl⟩)
  have h3 := H2.out.setKey HK.out (x := hd n) (s := true) (by omega) ((Ch.refl (fun j => j = b) w2).setCell (p := ⟨b, 2, none⟩) (.inl rfl) (.bool true)) (fun _ h => h) (obj_setCell (H2.out.key n b HK.out).2)
  rw [upd_id hd] at h3
  refine leaves_cons (f := 24) (args := #[.pointer (some ⟨p, 0, none⟩)]) (by simp) (by simp [go_sem]) ?_
  refine (unlock_deferred muLib ⟨p, 0, none⟩ .returning _ h3.p0 h3.z0).mono ?_
  rintro e u' w'' ⟨rfl, rfl, rfl⟩
  exact ⟨_, results_tmp rfl _ _ _, rfl, K', h3.setL 0⟩

/-- Free of hold i -/
theorem free_yes (h : ST w0 w1 p m l hd sh H N K w) {i : Nat} (hi : i < H.length) (hf : H[i].2.2 = false) (hp : 0 < hd H[i].2.1) :
    Calls Try.prog 12 #[.pointer (some ⟨H[i].1, 0, none⟩)] w fun e w' => e = .returned (.bool true) ∧ ST w0 w1 p m l (upd hd H[i].2.1 (hd H[i].2.1 + -1)) sh (H.set i (H[i].1, H[i].2.1, true)) N K w' := by
  obtain ⟨_, k, hk, hx⟩ := h.hold H[i] (List.getElem_mem hi)
  have hb := (h.key _ k hk).2
  have hr := h.rng H[i].2.1
  rw [hf] at hx
  refine (free_first hx hb (by omega)).mono ?_
  rintro e w' ⟨he, h1, h2, hc⟩
  exact ⟨he, h.freed hi hk (by omega) hc h1 h2⟩
theorem free_no (h : ST w0 w1 p m l hd sh H N K w) {i : Nat} (hi : i < H.length) (hf : H[i].2.2 = true) :
    Calls Try.prog 12 #[.pointer (some ⟨H[i].1, 0, none⟩)] w fun e w' => e = .returned (.bool false) ∧ ST w0 w1 p m l hd sh H N K w' := by
  obtain ⟨_, k, hk, hx⟩ := h.hold H[i] (List.getElem_mem hi)
  rw [hf] at hx
  refine (free_done hx).mono ?_
  rintro e w' ⟨he, hc⟩
  exact ⟨he, h.step hc⟩
theorem hkey_any (h : ST w0 w1 p m l hd sh H N K w) {i : Nat} (hi : i < H.length) : Calls Try.prog 16 #[.pointer (some ⟨H[i].1, 0, none⟩)] w fun e w' => e = .returned (.int .i64 H[i].2.1) ∧ w = w' := by
  obtain ⟨_, k, hk, hx⟩ := h.hold H[i] (List.getElem_mem hi)
  exact key_any hx (h.key _ k hk).2
end
end Go.Proofs.Ytklnbfelcpnbeaa
