/- The statements' own example holds: 'wakes' tells true. Conditions: none. -/
import Derived.Test.YtklnbfelcpnbeaaC1
namespace Go.Proofs.Ytklnbfelcpnbeaa
open Go.RowKit Go.Maps Go.ChangeMaps Go.WideMaps Go.MuLone

theorem wf7 : (Lit.int .i64 7).wf = true := by decide

set_option maxRecDepth 100000 in
set_option maxHeartbeats 2000000 in
theorem wakes_any (w : World) : Calls Try.prog 9 #[] w fun e w' => e = .returned (.bool true) ∧ Ch (fun _ => False) w w' := by
  go_enter Try.func9, Try.ntmps9
  go_wp2_with fail
  refine (new_any _).mono ?_
  rintro e w1 ⟨p, m, rfl, h0⟩
  go_wp2_with fail
  refine (take_yes h0 wf7 (by omega) rfl (by omega)).mono ?_
  rintro e w2 ⟨x, K1, rfl, h1⟩
  go_wp2_with fail
  refine (take_yes h1 wf7 (by omega) rfl (by simp [upd])).mono ?_
  rintro e w3 ⟨y, K2, rfl, h2⟩
  have H2 : ST w w p m 0 (upd (fun _ => 0) 7 2) (fun _ => false) [(x, 7, false), (y, 7, false)] 2 K2 w3 := by
    have e : upd (upd (fun _ => (0 : Int)) 7 (0 + 1)) 7 (upd (fun _ => 0) 7 (0 + 1) 7 + 1) = upd (fun _ => 0) 7 2 := by funext k; simp only [upd]; split <;> simp
    rw [e] at h2
    exact h2
  clear h0 h1 h2
  go_wp2_with fail
  refine (free_yes (i := 0) H2 (by simp) rfl (by simp [upd])).mono ?_
  rintro e w4 ⟨rfl, h3⟩
  have H3 : ST w w p m 0 (upd (fun _ => 0) 7 1) (fun _ => false) [(x, 7, true), (y, 7, false)] 2 K2 w4 := by
    have e : upd (upd (fun _ => (0 : Int)) 7 2) 7 (upd (fun _ => (0 : Int)) 7 2 7 + -1) = upd (fun _ => 0) 7 1 := by funext k; simp only [upd]; split <;> simp
    rw [← e]
    exact h3
  clear H2 h3
  go_wp2_with fail
  refine (free_no (i := 0) H3 (by simp) rfl).mono ?_
  rintro e w5 ⟨rfl, H4⟩
  clear H3
  go_wp2_with fail
  refine (held_any H4 wf7).mono ?_
  rintro e w6 ⟨rfl, H5⟩
  rw [upd_same]
  clear H4
  go_wp2_with fail
  refine (shut_no H5 wf7 (by omega) (by simp [upd])).mono ?_
  rintro e w7 ⟨rfl, K3, H6⟩
  clear H5
  go_wp2_with fail
  refine (free_yes (i := 1) H6 (by simp) rfl (by simp [upd])).mono ?_
  rintro e w8 ⟨rfl, h7⟩
  have H7 : ST w w p m 0 (upd (fun _ => 0) 7 0) (fun _ => false) [(x, 7, true), (y, 7, true)] 3 K3 w8 := by
    have e : upd (upd (fun _ => (0 : Int)) 7 1) 7 (upd (fun _ => (0 : Int)) 7 1 7 + -1) = upd (fun _ => 0) 7 0 := by funext k; simp only [upd]; split <;> simp
    rw [← e]
    exact h7
  clear H6 h7
  go_wp2_with fail
  refine (shut_yes H7 wf7 (by omega) (by simp [upd])).mono ?_
  rintro e w9 ⟨rfl, K4, H8⟩
  clear H7
  go_wp2_with fail
  refine (take_no H8 wf7 (by omega) (by simp [upd])).mono ?_
  rintro e w10 ⟨rfl, K5, H9⟩
  clear H8
  go_wp2_with fail
  refine (hkey_any (i := 0) H9 (by simp)).mono ?_
  rintro e w11 ⟨rfl, rfl⟩
  go_wp2
  go_ret
  exact ⟨rfl, H9.ch⟩
end Go.Proofs.Ytklnbfelcpnbeaa
