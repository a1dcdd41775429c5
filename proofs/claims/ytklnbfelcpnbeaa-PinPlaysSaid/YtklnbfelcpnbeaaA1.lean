/- What sync/atomic's Int64 and Bool, and sync.Once, do in this program, one goroutine alone. Conditions: the cells are there. -/
import Derived.Test.YtklnbfelcpnbeaaLk
import Derived.Test.YtklnbfelcpnbeaaFr
import Derived.Tactics
import Derived.Tactics2
import Derived.Defers
import Derived.Laws.Pointers
import Derived.Laws.LoneSync
import Derived.RegionTactic
import Derived.RegionCalls
import Derived.Lib.Hide
namespace Go.Proofs.Ytklnbfelcpnbeaa
open Go.RowKit Go.Maps Go.MuLone

theorem i64_add {x y : Int} (h : -9223372036854775808 ≤ x + y ∧ x + y ≤ 9223372036854775807) (w : World) : (Op.intArith .add .i64 x y).run Try.prog w = .ok (.int .i64 (x + y)) w := by
  have : IntKind.i64.wrap (x + y) = x + y := IntWalk.i64_in _ h
  simp [go_sem, this]

theorem load_any {b off : Nat} {x : Int} {w : World} (hc : w.cell? ⟨b, off, none⟩ = some (.int .i64 x)) :
    Calls Try.prog 29 #[.pointer (some ⟨b, off, none⟩)] w fun e w' => e = .returned (.int .i64 x) ∧ w = w' := by
  have hl := run_call_load (P := Try.prog) Try.func37 (by kernel_rfl) (by kernel_rfl) (by kernel_rfl) .i64 (by kernel_rfl) hc
  go_enter Try.func29, Try.ntmps29
  go_wp2
  go_ret
  exact ⟨rfl, rfl⟩
theorem add_any {b off : Nat} {x y : Int} {w : World} (hc : w.cell? ⟨b, off, none⟩ = some (.int .i64 x)) (hz : w.frozen? ⟨b, off, none⟩ = false) (h : -9223372036854775808 ≤ x + y ∧ x + y ≤ 9223372036854775807) :
    Calls Try.prog 26 #[.pointer (some ⟨b, off, none⟩), .int .i64 y] w fun e w' => e = .returned (.int .i64 (x + y)) ∧ w' = w.setCell ⟨b, off, none⟩ (.int .i64 (x + y)) := by
  have hl := run_call_add (P := Try.prog) Try.func34 (by kernel_rfl) (by kernel_rfl) (by kernel_rfl) .i64 (by kernel_rfl) hc hz (i64_add h w)
  clear h
  go_enter Try.func26, Try.ntmps26
  go_wp2
  go_ret
  exact ⟨rfl, rfl⟩
theorem loadB_any {b off : Nat} {x : Int} {w : World} (hc : w.cell? ⟨b, off, none⟩ = some (.int .u32 x)) :
    Calls Try.prog 35 #[.pointer (some ⟨b, off, none⟩)] w fun e w' => e = .returned (.bool (x != 0)) ∧ w = w' := by
  have hl := run_call_load (P := Try.prog) Try.func48 (by kernel_rfl) (by kernel_rfl) (by kernel_rfl) .u32 (by kernel_rfl) hc
  go_enter Try.func35, Try.ntmps35
  go_wp2
  go_ret
  exact ⟨rfl, rfl⟩
/-- '(*sync/atomic.Bool).Store(true)', entered as a deferred call: the cell holds 1. -/
theorem store_deferred {b off : Nat} (x : Value) (u : FrameMode) (w : World) (hc : w.cell? ⟨b, off, none⟩ = some x) (hz : w.frozen? ⟨b, off, none⟩ = false) :
    CallsD Try.prog 49 #[.pointer (some ⟨b, off, none⟩), .bool true] u w fun e u' w' => u' = u ∧ (e = .returned (.tuple #[]) ∧ w' = w.drew.setCell ⟨b, off, none⟩ (.int .u32 1)) := by
  have hc' : w.drew.cell? ⟨b, off, none⟩ = some x := by go_simp
  have hz' : w.drew.frozen? ⟨b, off, none⟩ = false := by go_simp
  have hst := run_call_store (P := Try.prog) Try.func68 (by kernel_rfl) (by kernel_rfl) (by kernel_rfl) (by kernel_rfl) (k := .u32) (y := 1) hc' hz'
  go_enter_d Try.func49, Try.ntmps49
  go_wp2
  go_region_calls
  all_goals (go_end0; exact ⟨rfl, rfl⟩)
end Go.Proofs.Ytklnbfelcpnbeaa
