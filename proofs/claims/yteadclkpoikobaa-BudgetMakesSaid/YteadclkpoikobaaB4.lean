/- What the program's call Tenants on a book does: the names that have bytes, sorted. Conditions: the book lies in memory as New laid it. -/
import Derived.Test.YteadclkpoikobaaB2
import Derived.Test.YteadclkpoikobaaIter
namespace Go.Proofs.Yteadclkpoikobaa
open Go.RowKit Go.Maps Go.ChangeMaps Go.WideMaps Go.Sort

/-- the sorted names of a datum, as values -/
noncomputable def names (D : DataW Unit) : List (List UInt8) := (strKeys D).mergeSort leB

theorem tenants_nil (w : World) : Calls Try.prog 15 #[.pointer none] w fun e w' => e = .returned (.slice none 0 0) ∧ w = w' := by
  go_enter Try.func15, Try.ntmps15
  go_wp2
  go_ret
  exact ⟨rfl, rfl⟩

theorem tenants_D {b m n : Nat} {all share sum : Int} {D : DataW Unit} {w : World} (h : BookAt w b m all share sum D n) (hn : n < 1000000) :
    Calls Try.prog 15 #[.pointer (some ⟨b, 0, none⟩)] w fun e w' => ∃ v, e = .returned v ∧ w'.ownsRow w.heap.size 9 1 v (names D).length ((names D).map encStr) ∧ Ch (fun _ => False) w w' := by
  have c3 := cell_of (off := 3) (v := .map (some m)) h.obj rfl
  have hsz : Maps.size D ≤ n := h.map.size_le
  have hmax : Maps.size D ≤ maxLen := by unfold maxLen; omega
  have hby : Maps.size D * 16 ≤ 140737488355328 := by omega
  have HM := Lib.hid h.map
  clear h hsz
  have cK := fun W => callsIn_wide.1 (Try.maps_Keys_29 (some m) W)
  have cS := callsIn_wide.1 (Try.slices_Sorted_keys_28_29 m n D El w HM.out hmax hby)
  have HK := Lib.hid cK
  have HS := Lib.hid cS
  clear cK cS
  go_enter Try.func15, Try.ntmps15
  go_wp2_with (first | (go_at_call 29; refine (HK.out _).mono ?_; rintro e w' ⟨rfl, rfl⟩) | (go_at_call 28; refine HS.out.mono ?_; rintro e w' ⟨v, ss, rfl, hS, hrow, hnil, hb⟩))
  go_ret
  have e1 : ss.mergeSort (fun x y => decide (x ≤ y)) = names D := mergeSort_of_perm hS
  have e2 : ss.length = (names D).length := by rw [← e1]; simp
  rw [e1, e2] at hrow
  refine ⟨v, rfl, ownsRow_base_a hrow (by simp), ((Ch.refl _ w).alloc _).step_below hb (by simp)⟩
end Go.Proofs.Yteadclkpoikobaa
