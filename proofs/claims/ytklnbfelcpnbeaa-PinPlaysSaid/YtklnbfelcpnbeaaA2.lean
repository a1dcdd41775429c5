/- What a hold's Free does: sync.Once with a closure that makes a counter less. Conditions: the hold and its key lie in memory. -/
import Derived.Test.YtklnbfelcpnbeaaA1
namespace Go.Proofs.Ytklnbfelcpnbeaa
open Go.RowKit Go.Maps Go.MuLone

/-- the blocks that a Free touches: the hold x, its key k, the parameter's box bx, the flag's box bf -/
structure FS (x k bx bf : Nat) (n h : Int) (s : Bool) (d l : Int) (f : Bool) (W : World) : Prop where
  hold : W.heap[x]? = some (.cells #[.pointer (some ⟨k, 0, none⟩), .int .u32 d, .int .i32 l, .int .u32 0] 79)
  key : W.heap[k]? = some (.cells #[.int .i64 n, .int .i64 h, .bool s] 72)
  box : W.heap[bx]? = some (.cells #[.pointer (some ⟨x, 0, none⟩)] 26)
  flag : W.heap[bf]? = some (.cells #[.bool f] 4)
section
variable {x k bx bf : Nat} {n h d l : Int} {s f : Bool} {W : World}
theorem FS.drew (H : FS x k bx bf n h s d l f W) : FS x k bx bf n h s d l f W.drew := ⟨H.hold, H.key, H.box, H.flag⟩
theorem FS.ne (H : FS x k bx bf n h s d l f W) : x ≠ k ∧ x ≠ bx ∧ x ≠ bf ∧ k ≠ bx ∧ k ≠ bf ∧ bx ≠ bf := by
  obtain ⟨h1, h2, h3, h4⟩ := H
  refine ⟨?_, ?_, ?_, ?_, ?_, ?_⟩ <;> rintro rfl <;> simp_all
theorem FS.setL (H : FS x k bx bf n h s d l f W) (l' : Int) : FS x k bx bf n h s d l' f (W.setCell ⟨x, 2, none⟩ (.int .i32 l')) :=
  have e := H.ne
  ⟨obj_setCell H.hold, obj_setCell_other H.key (fun h => e.1 h.symm), obj_setCell_other H.box (fun h => e.2.1 h.symm), obj_setCell_other H.flag (fun h => e.2.2.1 h.symm)⟩
theorem FS.setD (H : FS x k bx bf n h s d l f W) (d' : Int) : FS x k bx bf n h s d' l f (W.setCell ⟨x, 1, none⟩ (.int .u32 d')) :=
  have e := H.ne
  ⟨obj_setCell H.hold, obj_setCell_other H.key (fun h => e.1 h.symm), obj_setCell_other H.box (fun h => e.2.1 h.symm), obj_setCell_other H.flag (fun h => e.2.2.1 h.symm)⟩
theorem FS.setH (H : FS x k bx bf n h s d l f W) (h' : Int) : FS x k bx bf n h' s d l f (W.setCell ⟨k, 1, none⟩ (.int .i64 h')) :=
  have e := H.ne
  ⟨obj_setCell_other H.hold e.1, obj_setCell H.key, obj_setCell_other H.box (fun h => e.2.2.2.1 h.symm), obj_setCell_other H.flag (fun h => e.2.2.2.2.1 h.symm)⟩
theorem FS.setF (H : FS x k bx bf n h s d l f W) (f' : Bool) : FS x k bx bf n h s d l f' (W.setCell ⟨bf, 0, none⟩ (.bool f')) :=
  have e := H.ne
  ⟨obj_setCell_other H.hold e.2.2.1, obj_setCell_other H.key e.2.2.2.2.1, obj_setCell_other H.box e.2.2.2.2.2, obj_setCell H.flag⟩
theorem FS.cx0 (H : FS x k bx bf n h s d l f W) : W.cell? ⟨x, 0, none⟩ = some (.pointer (some ⟨k, 0, none⟩)) := cell_of H.hold rfl
theorem FS.cx1 (H : FS x k bx bf n h s d l f W) : W.cell? ⟨x, 1, none⟩ = some (.int .u32 d) := cell_of H.hold rfl
theorem FS.cx2 (H : FS x k bx bf n h s d l f W) : W.cell? ⟨x, 2, none⟩ = some (.int .i32 l) := cell_of H.hold rfl
theorem FS.ck1 (H : FS x k bx bf n h s d l f W) : W.cell? ⟨k, 1, none⟩ = some (.int .i64 h) := cell_of H.key rfl
theorem FS.cb (H : FS x k bx bf n h s d l f W) : W.cell? ⟨bx, 0, none⟩ = some (.pointer (some ⟨x, 0, none⟩)) := cell_of H.box rfl
theorem FS.cf (H : FS x k bx bf n h s d l f W) : W.cell? ⟨bf, 0, none⟩ = some (.bool f) := cell_of H.flag rfl
theorem FS.zx (H : FS x k bx bf n h s d l f W) (o : Nat) : W.frozen? ⟨x, o, none⟩ = false := frozen_of H.hold
theorem FS.zk (H : FS x k bx bf n h s d l f W) (o : Nat) : W.frozen? ⟨k, o, none⟩ = false := frozen_of H.key
theorem FS.zf (H : FS x k bx bf n h s d l f W) (o : Nat) : W.frozen? ⟨bf, o, none⟩ = false := frozen_of H.flag
end

/-- the closure -/
theorem less_any {x k bx bf : Nat} {n h d l : Int} {s f : Bool} {w : World} (H : FS x k bx bf n h s d l f w) (h0 : 0 ≤ h ∧ h ≤ 1000000) :
    Calls Try.prog 28 #[.pointer (some ⟨bx, 0, none⟩), .pointer (some ⟨bf, 0, none⟩)] w fun e w' => e = .returned (.tuple #[]) ∧ FS x k bx bf n (h + -1) s d l true w' ∧ Ch (fun b => b = k ∨ b = bf) w w' := by
  have H2 := H.setH (h + -1)
  have HS := Lib.hid H2
  have HC := Lib.hid (((Ch.refl (fun b => b = k ∨ b = bf) w).setCell (p := ⟨k, 1, none⟩) (.inl (.inl rfl)) (.int .i64 (h + -1))).setCell (p := ⟨bf, 0, none⟩) (.inl (.inr rfl)) (.bool true))
  have c1 := H.cb
  have c2 := H.cx0
  have c3 := H.ck1
  have z3 := H.zk 1
  have c4 := H2.cf
  have z4 := H2.zf 0
  clear H H2
  go_enter Try.func28, Try.ntmps28
  go_wp2_with (go_at_call 26; refine (add_any c3 z3 (by omega)).mono ?_; rintro e w' ⟨rfl, rfl⟩)
  go_end0
  exact ⟨rfl, HS.out.setF true, HC.out⟩

set_option maxRecDepth 100000 in
set_option maxHeartbeats 1600000 in
theorem slow_any {x k bx bf : Nat} {n h : Int} {s f : Bool} {w : World} (H : FS x k bx bf n h s 0 0 f w) (h0 : 0 ≤ h ∧ h ≤ 1000000) :
    Calls Try.prog 36 #[.pointer (some ⟨x, 1, none⟩), .func (.func 28) #[] #[.pointer (some ⟨bx, 0, none⟩), .pointer (some ⟨bf, 0, none⟩)]] w fun e w' => e = .returned (.tuple #[]) ∧ FS x k bx bf n (h + -1) s 1 0 true w' ∧ Ch (fun b => b = x ∨ b = k ∨ b = bf) w w' := by
  have H1 := H.setL 1
  have HS := Lib.hid H1
  have HC := Lib.hid ((Ch.refl (fun b => b = x ∨ b = k ∨ b = bf) w).setCell (p := ⟨x, 2, none⟩) (.inl (.inl rfl)) (.int .i32 1))
  have c1 := H.cx2
  have z1 := H.zx 2
  have c2 := H1.cx1
  have hnot : ∀ (x : Bool) (w : World), (Op.unary .not (.bool x)).run Try.prog w = .ok (.bool (!x)) w := fun _ _ => rfl
  clear H H1
  go_enter_defers Try.func36, Try.ntmps36
  go_wp2_with (first
    | (go_at_call 23; refine (lock_free muLib ⟨x, 2, none⟩ _ c1 z1).mono ?_; rintro e w' ⟨rfl, rfl⟩)
    | (go_at_call 35; refine (loadB_any c2).mono ?_; rintro e w' ⟨rfl, rfl⟩))
  refine (less_any HS.out h0).mono ?_
  rintro e w3 ⟨rfl, H3, c3⟩
  go_wp2
  -- the door: two deferred calls, the last laid first
  refine leaves_cons (f := 49) (args := #[.pointer (some ⟨x, 1, none⟩), .bool true]) (by simp) (by simp [go_sem]) ?_
  refine (store_deferred (.int .u32 0) .returning _ H3.cx1 (H3.zx 1)).mono ?_
  rintro e u' w'' ⟨rfl, rfl, rfl⟩
  have H4 := H3.drew.setD 1
  refine leaves_cons (f := 24) (args := #[.pointer (some ⟨x, 2, none⟩)]) (by simp [settle]) (by simp [go_sem]) ?_
  refine (unlock_deferred muLib ⟨x, 2, none⟩ _ _ H4.cx2 (H4.zx 2)).mono ?_
  rintro e u' w'' ⟨rfl, rfl, rfl⟩
  have H5 := H4.setL 0
  have C5 := (((HC.out.trans c3 (fun b h _ => .inr h)).drew).setCell (p := ⟨x, 1, none⟩) (.inl (.inl rfl)) (.int .u32 1)).setCell (p := ⟨x, 2, none⟩) (.inl (.inl rfl)) (.int .i32 0)
  simp [Leaves, settle, results, Try.results36]
  exact ⟨H5, C5⟩

theorem do_first {x k bx bf : Nat} {n h : Int} {s f : Bool} {w : World} (H : FS x k bx bf n h s 0 0 f w) (h0 : 0 ≤ h ∧ h ≤ 1000000) :
    Calls Try.prog 27 #[.pointer (some ⟨x, 1, none⟩), .func (.func 28) #[] #[.pointer (some ⟨bx, 0, none⟩), .pointer (some ⟨bf, 0, none⟩)]] w fun e w' => e = .returned (.tuple #[]) ∧ FS x k bx bf n (h + -1) s 1 0 true w' ∧ Ch (fun b => b = x ∨ b = k ∨ b = bf) w w' := by
  have HS := Lib.hid H
  have c2 := H.cx1
  have hnot : ∀ (x : Bool) (w : World), (Op.unary .not (.bool x)).run Try.prog w = .ok (.bool (!x)) w := fun _ _ => rfl
  clear H
  go_enter Try.func27, Try.ntmps27
  go_wp2_with (first
    | (go_at_call 35; refine (loadB_any c2).mono ?_; rintro e w' ⟨rfl, rfl⟩)
    | (go_at_call 36; refine (slow_any HS.out h0).mono ?_; rintro e w' ⟨rfl, H1, c1⟩))
  go_end0
  exact ⟨rfl, H1, c1⟩
theorem do_done {x : Nat} {v : Value} {w : World} (c2 : w.cell? ⟨x, 1, none⟩ = some (.int .u32 1)) :
    Calls Try.prog 27 #[.pointer (some ⟨x, 1, none⟩), v] w fun e w' => e = .returned (.tuple #[]) ∧ w = w' := by
  have hnot : ∀ (x : Bool) (w : World), (Op.unary .not (.bool x)).run Try.prog w = .ok (.bool (!x)) w := fun _ _ => rfl
  go_enter Try.func27, Try.ntmps27
  go_wp2_with (first
    | (go_at_call 35; refine (loadB_any c2).mono ?_; rintro e w' ⟨rfl, rfl⟩))
  go_end0
  exact ⟨rfl, rfl⟩

/-- a hold that is freed the first time -/
theorem free_first {x k : Nat} {n h : Int} {s : Bool} {w : World} (hx : w.heap[x]? = some (.cells #[.pointer (some ⟨k, 0, none⟩), .int .u32 0, .int .i32 0, .int .u32 0] 79)) (hk : w.heap[k]? = some (.cells #[.int .i64 n, .int .i64 h, .bool s] 72)) (h0 : 0 ≤ h ∧ h ≤ 1000000) :
    Calls Try.prog 12 #[.pointer (some ⟨x, 0, none⟩)] w fun e w' => e = .returned (.bool true) ∧ w'.heap[x]? = some (.cells #[.pointer (some ⟨k, 0, none⟩), .int .u32 1, .int .i32 0, .int .u32 0] 79) ∧ w'.heap[k]? = some (.cells #[.int .i64 n, .int .i64 (h + -1), .bool s] 72) ∧ Ch (fun b => b = x ∨ b = k) w w' := by
  have HX := Lib.hid hx
  have HK := Lib.hid hk
  have c0 := cell_of (off := 0) (v := .pointer (some ⟨k, 0, none⟩)) hx rfl
  have hlx := lt_of_obj hx
  clear hx hk
  go_enter Try.func12, Try.ntmps12
  have hmf : ∀ (fn : Fn) (first cap : Array Value) (w : World), (Instr.makeFunc fn first cap).run Try.prog w = .ok (.func fn first cap) w := fun _ _ _ _ => rfl
  go_wp2_with fail
  have o4 := obj_new (w.alloc (.cells #[.pointer (some ⟨x, 0, none⟩)] 26)) (.cells #[.bool false] 4)
  rw [show (w.alloc (.cells #[.pointer (some ⟨x, 0, none⟩)] 26)).heap.size = w.heap.size + 1 by simp] at o4
  have H0 : FS x k w.heap.size (w.heap.size + 1) n h s 0 0 false ((w.alloc (.cells #[.pointer (some ⟨x, 0, none⟩)] 26)).alloc (.cells #[.bool false] 4)) :=
    ⟨obj_alloc (obj_alloc HX.out), obj_alloc (obj_alloc HK.out), obj_alloc (obj_new w _), o4⟩
  have C0 := ((Ch.refl (fun b => b = x ∨ b = k) w).alloc (.cells #[.pointer (some ⟨x, 0, none⟩)] 26)).alloc (.cells #[.bool false] 4)
  clear o4
  refine (do_first H0 h0).mono ?_
  rintro e w3 ⟨rfl, H3, c3⟩
  have c1 := H3.cf
  go_wp2
  go_ret
  exact ⟨rfl, H3.hold, H3.key, C0.trans c3 (fun b hb hl => by rcases hb with rfl | rfl | rfl; exact .inl rfl; exact .inr rfl; omega)⟩

/-- a hold that was freed -/
theorem free_done {x k : Nat} {w : World} (hx : w.heap[x]? = some (.cells #[.pointer (some ⟨k, 0, none⟩), .int .u32 1, .int .i32 0, .int .u32 0] 79)) :
    Calls Try.prog 12 #[.pointer (some ⟨x, 0, none⟩)] w fun e w' => e = .returned (.bool false) ∧ Ch (fun _ => False) w w' := by
  have c0 := cell_of (off := 0) (v := .pointer (some ⟨k, 0, none⟩)) hx rfl
  have hlx := lt_of_obj hx
  have c1 := cell_of (off := 1) (v := .int .u32 1) (obj_alloc (o' := .cells #[.bool false] 4) (obj_alloc (o' := .cells #[.pointer (some ⟨x, 0, none⟩)] 26) hx)) rfl
  clear hx
  have hmf : ∀ (fn : Fn) (first cap : Array Value) (w : World), (Instr.makeFunc fn first cap).run Try.prog w = .ok (.func fn first cap) w := fun _ _ _ _ => rfl
  go_enter Try.func12, Try.ntmps12
  go_wp2_with fail
  refine (do_done c1).mono ?_
  rintro e w3 ⟨rfl, rfl⟩
  go_wp2
  go_ret
  exact ⟨rfl, ((Ch.refl (fun _ => False) w).alloc _).alloc _⟩
theorem free_nil (w : World) : Calls Try.prog 12 #[.pointer none] w fun e w' => e = .returned (.bool false) ∧ Ch (fun _ => False) w w' := by
  go_enter Try.func12, Try.ntmps12
  go_wp2
  go_ret
  exact ⟨rfl, (Ch.refl (fun _ => False) w).alloc _⟩
theorem key_nil (w : World) : Calls Try.prog 16 #[.pointer none] w fun e w' => e = .returned (.int .i64 0) ∧ w = w' := by
  go_enter Try.func16, Try.ntmps16
  go_wp2
  go_ret
  exact ⟨rfl, rfl⟩
theorem key_any {x k : Nat} {n h d : Int} {s : Bool} {w : World} (hx : w.heap[x]? = some (.cells #[.pointer (some ⟨k, 0, none⟩), .int .u32 d, .int .i32 0, .int .u32 0] 79)) (hk : w.heap[k]? = some (.cells #[.int .i64 n, .int .i64 h, .bool s] 72)) :
    Calls Try.prog 16 #[.pointer (some ⟨x, 0, none⟩)] w fun e w' => e = .returned (.int .i64 n) ∧ w = w' := by
  have c0 := cell_of (off := 0) (v := .pointer (some ⟨k, 0, none⟩)) hx rfl
  have c1 := cell_of (off := 0) (v := .int .i64 n) hk rfl
  clear hx hk
  go_enter Try.func16, Try.ntmps16
  go_wp2
  go_ret
  exact ⟨rfl, rfl⟩
theorem take_nil (n : Int) (w : World) : Calls Try.prog 11 #[.pointer none, .int .i64 n] w fun e w' => e = .returned (.tuple #[.pointer none, .int .i64 1]) ∧ w = w' := by
  go_enter_defers Try.func11, Try.ntmps11
  go_wp2
  exact ⟨_, results_tmp2 rfl _ _ _, rfl, rfl⟩
theorem held_nil (n : Int) (w : World) : Calls Try.prog 13 #[.pointer none, .int .i64 n] w fun e w' => e = .returned (.int .i64 0) ∧ w = w' := by
  go_enter_defers Try.func13, Try.ntmps13
  go_wp2
  exact ⟨_, results_tmp rfl _ _ _, rfl, rfl⟩
theorem shut_nil (n : Int) (w : World) : Calls Try.prog 14 #[.pointer none, .int .i64 n] w fun e w' => e = .returned (.bool false) ∧ w = w' := by
  go_enter_defers Try.func14, Try.ntmps14
  go_wp2
  exact ⟨_, results_tmp rfl _ _ _, rfl, rfl⟩
theorem all_nil (w : World) : Calls Try.prog 21 #[.pointer none] w fun e w' => e = .returned (.slice none 0 0) ∧ w = w' := by
  go_enter_defers Try.func21, Try.ntmps21
  go_wp2
  exact ⟨_, results_tmp rfl _ _ _, rfl, rfl⟩
end Go.Proofs.Ytklnbfelcpnbeaa
