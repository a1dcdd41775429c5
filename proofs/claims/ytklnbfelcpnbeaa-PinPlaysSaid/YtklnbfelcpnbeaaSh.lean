/- What is shut stays shut, is held by nobody, and is told to be shut again: the walk of PinShut. Conditions: none. -/
import Derived.Test.YtklnbfelcpnbeaaAl
import Derived.Test.YtklnbfelcpnbeaaAp
namespace Go.Proofs.Ytklnbfelcpnbeaa
open Go.RowKit Go.Maps Go.MuLone

theorem g_all {w0 w W' : World} {p m N : Nat} {sh : Int → Bool} {A : List Ho} (h : SK w0 w p m sh A N W') (hN : N < 100000) :
    Calls Try.prog 21 #[.pointer (some ⟨p, 0, none⟩)] W' fun e w' => ∃ a cap ss, e = .returned (.slice a ss.length cap) ∧ w'.ownsRow W'.heap.size 2 1 (.slice a ss.length cap) ss.length (ss.map (Value.int .i64)) ∧ IsAll (fun n => cnt n A) ss ∧ ss.length ≤ N ∧ SK w0 w p m sh A N w' := by
  obtain ⟨K, h⟩ := h
  refine (all_any h hN).mono ?_
  rintro e w' ⟨a, cap, ss, he, hr, hi, hl, h'⟩
  exact ⟨a, cap, ss, he, hr, hi, hl, K, h'⟩

set_option maxRecDepth 100000 in
set_option maxHeartbeats 2000000 in
theorem shut_walk (key tr : Int) (hk : (Lit.int .i64 key).wf = true) (h1 : 0 ≤ tr ∧ tr ≤ 255) (w : World) :
    Calls Try.prog 6 #[.int .i64 key, .int .u8 tr] w fun e w' => e = .returned (.bool true) ∧ Ch (fun _ => False) w w' := by
  have HK := Lib.hid hk
  clear hk
  go_enter Try.func6, Try.ntmps6
  go_wp2_with fail
  refine (wakes_any _).mono ?_
  rintro e w1 ⟨rfl, c0⟩
  have C0 := Lib.hid c0
  clear c0
  go_wp2_with fail
  refine (g_new _).mono ?_
  rintro e w2 ⟨p, m, rfl, s0⟩
  go_wp2_with fail
  refine (g_shut_yes s0 HK.out (by omega) rfl).mono ?_
  rintro e w3 ⟨rfl, s1⟩
  clear s0
  go_wp2_with fail
  generalize hrr : tr % 20 = rr at *
  obtain ⟨r, rfl⟩ : ∃ r : Nat, rr = r := ⟨rr.toNat, by omega⟩
  have hr : r ≤ 19 := by omega
  clear hrr h1
  have S1 : Hid (SK w1 w1 p m (upd (fun _ => false) key true) [] 1 w3) := s1
  clear s1
  go_loopw [22, 6, 7] (fun j _ _ wr => ∃ (q : Nat) (sh : Int → Bool), q ≤ r ∧ j = .int .i64 q ∧ sh key = true ∧ Hid (SK w1 w1 p m sh [] (1 + 2 * q) wr)) (fun j _ _ _ => r - (intOf j).toNat)
  case atStart => exact ⟨0, _, Nat.zero_le _, rfl, upd_same _ _ _, S1⟩
  case round =>
    obtain ⟨q, sh, hq, rfl, hsh, S⟩ := hrel
    clear S1
    have HSH := Lib.hid hsh
    clear hsh
    by_cases hlt : q < r
    · go_wp2_with fail
      refine (g_take_no S.out HK.out (by omega) HSH.out).mono ?_
      rintro e w4 ⟨rfl, s4⟩
      go_wp2_with fail
      refine (g_held s4 HK.out).mono ?_
      rintro e w5 ⟨rfl, s5⟩
      simp only [cnt]
      go_wp2_with fail
      refine (g_shut_yes s5 HK.out (by omega) rfl).mono ?_
      rintro e w6 ⟨rfl, s6⟩
      go_wp2_with fail
      go_roundw
      case rel => exact ⟨q + 1, _, by omega, by go_num, upd_same _ _ _, s6⟩
      case measure => simp [intOf]; omega
    · go_wp2_with fail
      refine (g_all S.out (by omega)).mono ?_
      rintro e w4 ⟨a, cap, ss, rfl, hr', hi, hl, s4⟩
      obtain rfl : ss = [] := by
        cases ss with
        | nil => rfl
        | cons x r => have := (hi.mem x).1 (by simp); simp [cnt] at this
      go_wp2_with fail
      go_ret
      exact ⟨by simp, C0.out.trans s4.ch (fun _ h _ => h)⟩
end Go.Proofs.Ytklnbfelcpnbeaa
