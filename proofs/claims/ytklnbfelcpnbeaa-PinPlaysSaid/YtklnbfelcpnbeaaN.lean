/- Of no Pins, and of no hold, nothing is told: the walk of PinNil. Conditions: none. -/
import Derived.Test.YtklnbfelcpnbeaaW
import Derived.Test.YtklnbfelcpnbeaaRows
import Derived.Below
namespace Go.Proofs.Ytklnbfelcpnbeaa
open Go.RowKit

theorem wf_u8 {a : Int} (h : (Lit.int .u8 a).wf = true) : 0 ≤ a ∧ a ≤ 255 := by simp [Lit.wf, IntKind.min, IntKind.max, IntKind.signed, IntKind.bits] at h; omega
theorem laidOut : laidOutB Try.prog = true := by kernel_rfl

set_option maxRecDepth 100000 in
set_option maxHeartbeats 1000000 in
theorem nil_walk (n : Int) (w : World) : Calls Try.prog 8 #[.int .i64 n] w fun e w' => e = .returned (.bool true) ∧ Ch (fun _ => False) w w' := by
  go_enter Try.func8, Try.ntmps8
  go_wp2_with fail
  refine (wakes_any _).mono ?_
  rintro e w1 ⟨rfl, c0⟩
  go_wp2_with (first
    | (go_at_call 11; refine (take_nil _ _).mono ?_; rintro e w' ⟨rfl, rfl⟩)
    | (go_at_call 13; refine (held_nil _ _).mono ?_; rintro e w' ⟨rfl, rfl⟩)
    | (go_at_call 21; refine (all_nil _).mono ?_; rintro e w' ⟨rfl, rfl⟩)
    | (go_at_call 14; refine (shut_nil _ _).mono ?_; rintro e w' ⟨rfl, rfl⟩)
    | (go_at_call 12; refine (free_nil _).mono ?_; rintro e w2 ⟨rfl, c2⟩)
    | (go_at_call 16; refine (key_nil _).mono ?_; rintro e w' ⟨rfl, rfl⟩))
  go_ret
  exact ⟨rfl, c0.trans (by assumption) (fun _ h _ => h)⟩
end Go.Proofs.Ytklnbfelcpnbeaa
