/- The text of the set 5-9. Conditions: the set lies in memory. -/
import Derived.Test.YtbgojgoejlhgeaaDoorT1
namespace Go.Proofs.YtbgojgoejlhgeaaDoor.Pr
open Go.RowKit Go.Proofs.YtbgojgoejlhgeaaDoorW.PrintWords

theorem right59 (w : World) : Calls Tryd.prog 44 #[.agg #[.int .i64 5, .int .i64 9]] w fun e w' => e = .returned (.bool true) ∧ Below w.heap.size w w' := right44 ⟨5, 9⟩ w
theorem open59 (w : World) : Calls Tryd.prog 60 #[.agg #[.int .i64 5, .int .i64 9]] w fun e w' => e = .returned (.bool false) ∧ Below w.heap.size w w' := by
  go_enter Tryd.func60, Tryd.ntmps60
  go_wp2
  go_ret
  exact ⟨rfl, (Below.refl _ w).alloc (Nat.le_refl _) _⟩
theorem fmt5 (w : World) : Calls Tryd.prog 61 #[.int .i64 5, .int .i64 10] w fun e w' => e = .returned (.string ⟨#[53]⟩) ∧ w' = w := fmt61 5 (by decide) (by decide) w
theorem fmt9 (w : World) : Calls Tryd.prog 61 #[.int .i64 9, .int .i64 10] w fun e w' => e = .returned (.string ⟨#[57]⟩) ∧ w' = w := fmt61 9 (by decide) (by decide) w
theorem text49 (w : World) : Calls Tryd.prog 49 #[.agg #[.int .i64 5, .int .i64 9]] w fun e w' => e = .returned (.string ⟨#[53, 45, 57]⟩) ∧ Below w.heap.size w w' := by
  go_enter Tryd.func49, Tryd.ntmps49
  go_wp2_with fail
  refine (right59 _).mono ?_
  rintro e w1 ⟨rfl, hb1⟩
  have bx1 := blk_of (new_obj w (.cells #[.int .i64 5, .int .i64 9] 42)) hb1
  have q0 := cellO (off := 0) (v := .int .i64 5) bx1 rfl
  have q1 := cellO (off := 1) (v := .int .i64 9) bx1 rfl
  have HB1 := Lib.hid (((Below.refl _ w).alloc (Nat.le_refl _) (.cells #[.int .i64 5, .int .i64 9] 42)).trans (hb1.mono (by simp)))
  have BX1 := Lib.hid bx1
  clear hb1 bx1
  go_wp2_with fail
  refine (open59 _).mono ?_
  rintro e w2 ⟨rfl, hb2⟩
  have bx2 := blk_of BX1.out hb2
  clear q0 q1
  have q0 := cellO (off := 0) (v := .int .i64 5) bx2 rfl
  have q1 := cellO (off := 1) (v := .int .i64 9) bx2 rfl
  have HB2 := Lib.hid (HB1.out.trans (hb2.mono HB1.out.size))
  clear hb2 bx2
  go_wp2_with fail
  go_quiet (first | (go_at_call_of 61 (Value.int IntKind.i64 5); exact Calls.quiet_of_same (fmt5 _)) | (go_at_call_of 61 (Value.int IntKind.i64 9); exact Calls.quiet_of_same (fmt9 _)))
  go_wp2_with fail
  go_ret
  exact ⟨rfl, HB2.out.trans ((show Below w2.heap.size w2 (w2.drewN nq) from ⟨rfl, rfl, rfl, Nat.le_refl _, fun _ _ => rfl⟩).mono HB2.out.size)⟩
theorem join50 (a : Addr) (s : ByteArray) (c : Nat) (w : World) (h : w.cell? a = some (.string s)) (ha : a.add 0 = a) : Calls Tryd.prog 50 #[.slice (some a) 1 c, .string ⟨#[44]⟩] w fun e w' => e = .returned (.string s) ∧ w' = w := by
  go_enter Tryd.func50, Tryd.ntmps50
  go_wp2
  go_ret
  exact ⟨rfl, rfl⟩
theorem info9' : (Tryd.prog.info? 9).map (fun i => (i.zero, i.size, i.bytes)) = some (some (.string ⟨#[]⟩), 1, 16) := by kernel_rfl
set_option maxRecDepth 100000 in
set_option maxHeartbeats 1000000 in
theorem settext34 {A : Option Addr} {c : Nat} {w : World} (h : Kd.C k42 w A 1 [⟨5, 9⟩]) :
    Calls Tryd.prog 34 #[.agg #[.slice A 1 c]] w fun e w' => e = .returned (.string ⟨#[53, 45, 57]⟩) ∧ Below w.heap.size w w' := by
  obtain ⟨i0, hi0, hz0, hz1, hz2⟩ := info_parts info9'
  have HC := Lib.hid h
  have HB0 := Lib.hid ((Below.refl _ w).alloc (Nat.le_refl _) (.cells #[.slice A 1 c] 29))
  have HN := Lib.hid (new_obj w (.cells #[.slice A 1 c] 29))
  clear h
  go_enter Tryd.func34, Tryd.ntmps34
  go_wp2_with fail
  go_loopw [13, 3, 5] (fun i v _ wr => ∃ k : Nat, k ≤ 1 ∧ i = .int .i64 k ∧ Hid (Below w.heap.size w wr) ∧ Hid (wr.ownsRow (w.heap.size + 1) 9 1 v k (List.replicate k (.string ⟨#[53, 45, 57]⟩)) ∧ w.heap.size + 1 ≤ wr.heap.size)) (fun i _ _ _ => 1 - (intOf i).toNat)
  case atStart => exact ⟨0, by omega, rfl, HB0.out, World.ownsRow_nil _ _ _ _, by simp⟩
  case round =>
    obtain ⟨k, hk, rfl, HB, HO⟩ := hrel
    by_cases hlt : k < 1
    · obtain rfl : k = 0 := by omega
      obtain ⟨ad, rfl, h0, h1⟩ := at_T42 (Kd.C_below HC.out HB.out) 0 (by omega) (by omega)
      have e0 : rd_T42 [⟨5, 9⟩] 0 = ⟨5, 9⟩ := rfl
      rw [e0] at h0 h1
      have ez : ad.add 0 = ad := by simp [Addr.add]
      simp only [Int.toNat_zero, Nat.zero_mul, ez] at h0 h1
      have HO2 := Lib.hid HO.out.1
      have HSZ := Lib.hid HO.out.2
      clear e0 ez HO
      go_wp2_with fail
      refine (text49 _).mono ?_
      rintro e w1 ⟨rfl, hb⟩
      have HBA := Lib.hid ((Below.refl _ wr).alloc (Nat.le_refl _) (.cells #[.int .i64 5, .int .i64 9] 42) |>.trans (hb.mono (by simp)))
      have HB2 := Lib.hid (HB.out.trans (HBA.out.mono HB.out.size))
      have HO3 := Lib.hid (pw_own_below HO2.out HBA.out)
      clear hb
      go_wp2_with (at_builtin; refine wpList_append_own _ rfl _ _ 64 rfl (w.heap.size + 1) 9 i0 (.string ⟨#[]⟩) 1 16 Tryd.underlying64 hi0 hz0 hz1 hz2 rfl (by decide) _ _ _ rfl (HO3.out.alloc _) ⟨w1.heap.size, 0, none⟩ 1 1 [.string ⟨#[53, 45, 57]⟩] rfl rfl ?a1 ?a2 ?a3 ?a4 ?a5 ?_)
      case a1 => exact cell_one_new _ _ _
      case a2 => simp [Value.oneCell']
      case a3 => unfold maxLen; omega
      case a4 => omega
      case a5 => have := HBA.out.size; have := HSZ.out; simp; omega
      intro v' w2 hown hgrow _
      have HB3 := Lib.hid ((HB2.out.alloc HB2.out.size (.cells #[.string ⟨#[53, 45, 57]⟩] 9)).grown hgrow (by have := HB2.out.size; simp; omega) (fun j hj => by have := own_base HO3.out j hj; omega))
      have HO4 : Hid (w2.ownsRow (w.heap.size + 1) 9 1 v' 1 (List.replicate 1 (.string ⟨#[53, 45, 57]⟩)) ∧ w.heap.size + 1 ≤ w2.heap.size) := ⟨hown, by have h1 := hgrow.size; have h2 := HBA.out.size; have h3 := HSZ.out; simp at h1; omega⟩
      clear hown hgrow
      go_wp2_with fail
      go_roundw
      case rel => exact ⟨1, by omega, rfl, HB3, HO4⟩
      case measure => simp [intOf]
    · obtain rfl : k = 1 := by omega
      obtain ⟨own, hsz⟩ := HO.out
      obtain ⟨g, c2, rfl⟩ : ∃ g c2, u3 = .slice (some ⟨g, 0, none⟩) 1 c2 := by
        rcases own.2 with ⟨_, hz⟩ | ⟨g, cap, cur, hv, _⟩
        · omega
        · exact ⟨g, cap, hv⟩
      have hc := own.cells (g := g) rfl 0 (.string ⟨#[53, 45, 57]⟩) rfl
      have ez : (⟨g, 0, none⟩ : Addr).add 0 = ⟨g, 0, none⟩ := by simp [Addr.add]
      rw [ez] at hc
      have HJ := Lib.hid (join50 ⟨g, 0, none⟩ ⟨#[53, 45, 57]⟩ c2 wr hc ez)
      clear own hsz HO hc ez
      go_wp2_with fail
      refine HJ.out.mono ?_
      rintro e w1 ⟨rfl, rfl⟩
      go_wp2_with fail
      go_ret
      exact ⟨rfl, HB.out⟩
end Go.Proofs.YtbgojgoejlhgeaaDoor.Pr
