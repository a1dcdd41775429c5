/- What the reference's functions on pins do that only ask: in, Held, and the statements' helper keys. Conditions: the lists lie in memory. -/
import Derived.Test.YtklnbfelcpnbeaaOq
namespace Go.Proofs.Ytklnbfelcpnbeaa
open Go.RowKit Go.Maps Go.MuLone

/-- a slice of the call's own that reads as a list of cells: n elements of type e -/
structure Sl (w : World) (e : TypeId) (a : Option Addr) (n : Nat) (xs : List Value) : Prop where
  len : xs.length = n
  max : n ≤ maxLen
  row : 0 < n → ∃ (g : Nat) (cur : Array Value) (z : Nat × Nat), a = some ⟨g, 0, none⟩ ∧ w.heap[g]? = some (.cells cur e z) ∧ ∀ (j : Nat) (u : Value), xs[j]? = some u → cur[j]? = some u
section
variable {w w' : World} {e : TypeId} {a : Option Addr} {n : Nat} {xs : List Value}
theorem Sl.cells (h : Sl w e a n xs) (hn : 0 < n) : ∃ g, a = some ⟨g, 0, none⟩ ∧ g < w.heap.size ∧ ∀ j u, xs[j]? = some u → w.cell? ⟨g, j, none⟩ = some u := by
  obtain ⟨g, cur, z, ha, hg, hc⟩ := h.row hn
  exact ⟨g, ha, lt_of_obj hg, fun j u hj => cell_of hg (hc j u hj)⟩
theorem Sl.nil (w : World) (e : TypeId) : Sl w e none 0 [] := ⟨by simp, by unfold maxLen; omega, fun h => by omega⟩
theorem Sl.of_row {base cap : Nat} (h : w.ownsRow base e 1 (.slice a n cap) n xs) : Sl w e a n xs := by
  obtain ⟨h1, h2⟩ := h
  rcases h2 with ⟨hv, hz⟩ | ⟨g, cap', cur, hv, hg, hh, r⟩
  · cases hv; exact ⟨by simpa using h1, by unfold maxLen; omega, fun h => by omega⟩
  · cases hv
    refine ⟨by simpa using h1, by omega, fun _ => ⟨g, cur, _, rfl, hh, fun j u hj => ?_⟩⟩
    have := r.2.2.2
    rw [← this, List.getElem?_take] at hj
    split at hj
    · simpa using hj
    · cases hj
theorem Sl.chT {S : Nat → Prop} (h : Sl w e a n xs) (c : Ch S w w') (hS : ∀ g cur z, w.heap[g]? = some (.cells cur e z) → a = some ⟨g, 0, none⟩ → ¬ S g) : Sl w' e a n xs :=
  ⟨h.len, h.max, fun hn => by
    obtain ⟨g, cur, z, ha, hg, hc⟩ := h.row hn
    exact ⟨g, cur, z, ha, c.obj hg (hS g cur z hg ha), hc⟩⟩
theorem Sl.ch (h : Sl w e a n xs) (c : Ch (fun _ => False) w w') : Sl w' e a n xs := h.chT c (fun _ _ _ _ _ h => h)
theorem Sl.kp (h : Sl w e a n xs) (k : Kp w w') (h1 : e ≠ 64) (h2 : e ≠ 72) (h3 : e ≠ 79) : Sl w' e a n xs :=
  ⟨h.len, h.max, fun hn => by
    obtain ⟨g, cur, z, ha, hg, hc⟩ := h.row hn
    exact ⟨g, cur, z, ha, k.block g cur e z hg h1 h2 h3, hc⟩⟩
theorem Sl.ag (h : Sl w e a n xs) : Ag w a n 1 xs :=
  ⟨by rw [h.len]; omega, h.max, fun hn => by
    obtain ⟨g, e1, hg, hc⟩ := h.cells hn
    exact ⟨g, 0, e1, hg, fun j u hj => by rw [Nat.zero_add]; exact hc j u hj⟩⟩
end

theorem ret_bool {a b : Bool} (h : a = b) : Ending.returned (.bool a) = .returned (.bool b) := by rw [h]
theorem ret_i64 {a b : Int} (h : a = b) : Ending.returned (.int .i64 a) = .returned (.int .i64 b) := by rw [h]
theorem in_any {S : List Int} {a : Option Addr} {cap : Nat} {n : Int} {w : World} (h : Sl w 2 a S.length (ints .i64 S)) :
    Calls Try.prog 30 #[.slice a S.length cap, .int .i64 n] w fun e w' => e = .returned (.bool (decide (n ∈ S))) ∧ w = w' := by
  have hm := h.max
  unfold maxLen at hm
  have HS := Lib.hid h
  clear h
  go_enter Try.func30, Try.ntmps30
  go_wp2
  go_loopw [5] (fun i wr => ∃ k : Nat, k ≤ S.length ∧ i = .int .i64 k ∧ Hid (n ∉ S.take k) ∧ w = wr) (fun i _ => S.length - (intOf i).toNat)
  case atStart => exact ⟨0, Nat.zero_le _, rfl, by simp [Hid], rfl⟩
  case round =>
    obtain ⟨k, hk, rfl, hn, rfl⟩ := hrel
    by_cases hlt : k < S.length
    · obtain ⟨g, rfl, hg, hcells⟩ := HS.out.cells (by omega)
      have d0 := hcells _ _ (ints_get .i64 S k hlt)
      clear hcells
      by_cases he : S[k] = n
      · have hb : (S[k] == n) = true := by simpa using he
        have HM := Lib.hid (show n ∈ S from he ▸ List.getElem_mem hlt)
        clear he
        go_wp2
        go_ret
        exact ⟨ret_bool (decide_eq_true HM.out).symm, rfl⟩
      · have hb : (S[k] == n) = false := by simpa using he
        have HE := Lib.hid he
        clear he
        go_wp2
        go_roundw
        case rel =>
          refine ⟨k + 1, by omega, by go_num, ?_, by first | trivial | rfl⟩
          unfold Hid
          rw [List.take_succ_eq_append_getElem hlt, List.mem_append]
          rintro (h | h)
          · exact hn.out h
          · simp at h; exact HE.out h.symm
        case measure => simp [intOf]; omega
    · obtain rfl : k = S.length := by omega
      have hn2 := hn.out
      rw [List.take_length] at hn2
      have HN := Lib.hid hn2
      clear hn hn2
      go_wp2
      go_ret
      exact ⟨ret_bool (decide_eq_false HN.out).symm, rfl⟩

def keysH (H : List Ho) : List Value := H.map fun h => .int .i64 h.2.1
def freedH (H : List Ho) : List Value := H.map fun h => .bool h.2.2
theorem keysH_get (H : List Ho) (k : Nat) (h : k < H.length) : (keysH H)[k]? = some (.int .i64 H[k].2.1) := by simp [keysH, h]
theorem freedH_get (H : List Ho) (k : Nat) (h : k < H.length) : (freedH H)[k]? = some (.bool H[k].2.2) := by simp [freedH, h]
theorem cnt_take (n : Int) (H : List Ho) (k : Nat) (h : k < H.length) : cnt n (H.take (k + 1)) = cnt n (H.take k) + (if H[k].2.1 = n ∧ H[k].2.2 = false then 1 else 0) := by
  rw [List.take_succ_eq_append_getElem h, cnt_append]; simp [cnt]

/-- the reference's pins, as a value -/
abbrev refV (a1 : Option Addr) (n1 c1 : Nat) (a2 : Option Addr) (c2 : Nat) (a3 : Option Addr) (n3 c3 : Nat) : Value := .agg #[.slice a1 n1 c1, .slice a2 n1 c2, .slice a3 n3 c3]
structure RV (w : World) (H : List Ho) (S : List Int) (a1 : Option Addr) (c1 : Nat) (a2 : Option Addr) (c2 : Nat) (a3 : Option Addr) (c3 : Nat) : Prop where
  n1 : a1 = none → c1 = 0
  n2 : a2 = none → c2 = 0
  n3 : a3 = none → c3 = 0
  keys : Sl w 2 a1 H.length (keysH H)
  freed : Sl w 4 a2 H.length (freedH H)
  shut : Sl w 2 a3 S.length (ints .i64 S)
theorem RV.ch {w w' : World} {H : List Ho} {S : List Int} {a1 a2 a3 : Option Addr} {c1 c2 c3 : Nat} (h : RV w H S a1 c1 a2 c2 a3 c3) (c : Ch (fun _ => False) w w') : RV w' H S a1 c1 a2 c2 a3 c3 := ⟨h.n1, h.n2, h.n3, h.keys.ch c, h.freed.ch c, h.shut.ch c⟩
theorem RV.kp {w w' : World} {H : List Ho} {S : List Int} {a1 a2 a3 : Option Addr} {c1 c2 c3 : Nat} (h : RV w H S a1 c1 a2 c2 a3 c3) (k : Kp w w') : RV w' H S a1 c1 a2 c2 a3 c3 :=
  ⟨h.n1, h.n2, h.n3, h.keys.kp k (by decide) (by decide) (by decide), h.freed.kp k (by decide) (by decide) (by decide), h.shut.kp k (by decide) (by decide) (by decide)⟩

set_option maxRecDepth 100000 in
set_option maxHeartbeats 1000000 in
theorem rheld_any {H : List Ho} {S : List Int} {a1 a2 a3 : Option Addr} {c1 c2 c3 : Nat} {n : Int} {w : World} (h : RV w H S a1 c1 a2 c2 a3 c3) (hlen : H.length < 1000) :
    Calls Try.prog 19 #[refV a1 H.length c1 a2 c2 a3 S.length c3, .int .i64 n] w fun e w' => e = .returned (.int .i64 (cnt n H)) ∧ Ch (fun _ => False) w w' := by
  have HS := Lib.hid (h.ch ((Ch.refl (fun _ => False) w).alloc (.cells #[.slice a1 H.length c1, .slice a2 H.length c2, .slice a3 S.length c3] 40)))
  clear h
  go_enter Try.func19, Try.ntmps19
  go_wp2
  go_loopw [5, 6] (fun c i wr => ∃ k : Nat, k ≤ H.length ∧ i = .int .i64 k ∧ c = .int .i64 (cnt n (H.take k)) ∧ wr = w.alloc (.cells #[.slice a1 H.length c1, .slice a2 H.length c2, .slice a3 S.length c3] 40)) (fun _ i _ => H.length - (intOf i).toNat)
  case atStart => exact ⟨0, Nat.zero_le _, rfl, by simp [cnt], by first | trivial | rfl⟩
  case round =>
    obtain ⟨k, hk, rfl, rfl, rfl⟩ := hrel
    have b1 := cnt_nonneg n (H.take k)
    have b2 := cnt_le n (H.take k)
    rw [List.length_take] at b2
    by_cases hlt : k < H.length
    · obtain ⟨g, rfl, hg, hcells⟩ := HS.out.keys.cells (by omega)
      have d0 := hcells _ _ (keysH_get H k hlt)
      obtain ⟨g2, rfl, hg2, hcells2⟩ := HS.out.freed.cells (by omega)
      have d1 := hcells2 _ _ (freedH_get H k hlt)
      have HT := Lib.hid (cnt_take n H k hlt)
      clear hcells hcells2
      by_cases he : H[k].2.1 = n
      · have hb : (H[k].2.1 == n) = true := by simpa using he
        cases hf : H[k].2.2 with
        | false =>
          rw [hf] at d1
          have HE := Lib.hid he
          have HF := Lib.hid hf
          clear he hf
          go_wp2
          go_roundw
          case rel => exact ⟨k + 1, by omega, by go_num, (by rw [HT.out, if_pos ⟨HE.out, HF.out⟩]; first | done | go_num), by first | trivial | rfl⟩
          case measure => simp [intOf]; omega
        | true =>
          rw [hf] at d1
          have HF := Lib.hid hf
          clear he hf
          go_wp2
          go_roundw
          case rel => exact ⟨k + 1, by omega, by go_num, (by rw [HT.out, if_neg (fun h => by rw [HF.out] at h; cases h.2)]; first | done | go_num), by first | trivial | rfl⟩
          case measure => simp [intOf]; omega
      · have hb : (H[k].2.1 == n) = false := by simpa using he
        have HE := Lib.hid he
        clear he
        go_wp2
        go_roundw
        case rel => exact ⟨k + 1, by omega, by go_num, (by rw [HT.out, if_neg (fun h => HE.out h.1)]; first | done | go_num), by first | trivial | rfl⟩
        case measure => simp [intOf]; omega
    · obtain rfl : k = H.length := by omega
      rw [List.take_length]
      go_wp2
      go_ret
      exact ⟨rfl, (Ch.refl _ w).alloc _⟩

set_option maxRecDepth 100000 in
set_option maxHeartbeats 1000000 in
theorem keys_any {L : List Int} {a a' : Option Addr} {c c' : Nat} {w : World} (h : Sl w 2 a L.length (ints .i64 L)) (h' : Sl w 2 a' L.length (ints .i64 L)) :
    Calls Try.prog 20 #[.slice a L.length c, .slice a' L.length c'] w fun e w' => e = .returned (.bool true) ∧ Ch (fun _ => False) w w' := by
  have hm := h.max
  unfold maxLen at hm
  have HS := Lib.hid h
  have HS' := Lib.hid h'
  clear h h'
  go_enter Try.func20, Try.ntmps20
  go_wp2
  go_loopw [13, 5] (fun i _ wr => ∃ (k q : Nat), k ≤ L.length ∧ i = .int .i64 k ∧ wr = w.drewN q) (fun i _ _ => L.length - (intOf i).toNat)
  case atStart => exact ⟨0, 0, Nat.zero_le _, rfl, rfl⟩
  case round =>
    obtain ⟨k, q, hk, rfl, rfl⟩ := hrel
    by_cases hlt : k < L.length
    · obtain ⟨g, rfl, hg, hcells⟩ := HS.out.cells (by omega)
      have d0 := hcells _ _ (ints_get .i64 L k hlt)
      clear hcells
      obtain ⟨g', rfl, hg', hcells'⟩ := HS'.out.cells (by omega)
      have d1 := hcells' _ _ (ints_get .i64 L k hlt)
      clear hcells'
      go_wp2
      go_quiet (fail)
      go_wp2
      go_roundw
      case rel => exact ⟨k + 1, _, by omega, by go_num, rfl⟩
      case measure => simp [intOf]; omega
    · obtain rfl : k = L.length := by omega
      go_wp2
      go_ret
      exact ⟨rfl, chN _ _ _⟩
end Go.Proofs.Ytklnbfelcpnbeaa
