/- What is done with one key changes nothing of another one: the walk of PinApart. Conditions: the acts lie in memory. -/
import Derived.Test.YtklnbfelcpnbeaaG
namespace Go.Proofs.Ytklnbfelcpnbeaa
open Go.RowKit Go.Maps Go.MuLone

/-- a slice that came in and reads as a list of cells: n elements -/
structure Ag (w : World) (a : Option Addr) (n : Nat) (size : Nat) (xs : List Value) : Prop where
  len : xs.length = n * size
  max : n ≤ maxLen
  cells : 0 < n → ∃ (g o : Nat), a = some ⟨g, o, none⟩ ∧ g < w.heap.size ∧ ∀ (j : Nat) (u : Value), xs[j]? = some u → w.cell? ⟨g, o + j, none⟩ = some u
theorem Ag.ch {w w' : World} {a : Option Addr} {n size : Nat} {xs : List Value} (h : Ag w a n size xs) (c : Ch (fun _ => False) w w') : Ag w' a n size xs :=
  ⟨h.len, h.max, fun hn => by
    obtain ⟨g, o, e, hg, hc⟩ := h.cells hn
    exact ⟨g, o, e, Nat.lt_of_lt_of_le hg c.size, fun j u hj => (c.cell (p := ⟨g, o + j, none⟩) hg (fun h => h)).trans (hc j u hj)⟩⟩
/-- an act: its kind, its key, its hold -/
abbrev Ac := Int × Int × Int
def flatA : List Ac → List Value
  | [] => []
  | x :: r => .int .u8 x.1 :: .int .i64 x.2.1 :: .int .u8 x.2.2 :: flatA r
theorem flatA_length (L : List Ac) : (flatA L).length = L.length * 3 := by
  induction L with
  | nil => rfl
  | cons x r ih => simp [flatA, ih]; omega
theorem flatA_get (L : List Ac) (k : Nat) (h : k < L.length) : (flatA L)[k * 3]? = some (.int .u8 L[k].1) ∧ (flatA L)[k * 3 + 1]? = some (.int .i64 L[k].2.1) ∧ (flatA L)[k * 3 + 2]? = some (.int .u8 L[k].2.2) := by
  induction L generalizing k with
  | nil => simp at h
  | cons x r ih =>
    cases k with
    | zero => simp [flatA]
    | succ k =>
      have e0 : (k + 1) * 3 = k * 3 + 1 + 1 + 1 := by omega
      obtain ⟨h0, h1, h2⟩ := ih k (by simpa using h)
      rw [e0]
      have e1 : k * 3 + 1 + 1 + 1 + 1 = (k * 3 + 1) + 1 + 1 + 1 := by omega
      have e2 : k * 3 + 1 + 1 + 1 + 2 = (k * 3 + 2) + 1 + 1 + 1 := by omega
      rw [e1, e2]
      simp only [flatA, List.getElem?_cons_succ, List.getElem_cons_succ]
      exact ⟨h0, h1, h2⟩
/-- the acts' numbers are of their kinds -/
def okA (A : List Ac) : Prop := ∀ x ∈ A, (0 ≤ x.1 ∧ x.1 ≤ 255) ∧ (Lit.int .i64 x.2.1).wf = true ∧ (0 ≤ x.2.2 ∧ x.2.2 ≤ 255)

theorem cnt_other {a b : Int} {H : List Ho} (h : ∀ x ∈ H, x.2.1 = a) (hne : a ≠ b) : cnt b H = 0 := by
  induction H with
  | nil => rfl
  | cons x r ih =>
    have h1 := h x (by simp)
    have h2 := ih fun y hy => h y (by simp [hy])
    simp [cnt, h1, hne, h2]
theorem SK.mono {w0 W W' : World} {p m N N' : Nat} {sh : Int → Bool} {A : List Ho} (h : SK w0 W p m sh A N W') (hN : N ≤ N') : SK w0 W p m sh A N' W' := by
  obtain ⟨K, h⟩ := h
  exact ⟨K, h.mono hN⟩
theorem SG.mono {w0 W : World} {p m N N' : Nat} {sh : Int → Bool} {H0 H : List Ho} {v : Value} (h : SG w0 p m sh H0 H N v W) (hN : N ≤ N') : SG w0 p m sh H0 H N' v W := ⟨SK.mono h.st hN, h.own⟩
theorem set_keys {H : List Ho} {i : Nat} (hi : i < H.length) {a : Int} (h : ∀ x ∈ H, x.2.1 = a) {d : Bool} : ∀ x ∈ H.set i (H[i].1, H[i].2.1, d), x.2.1 = a := by
  intro x hx
  rcases List.mem_or_eq_of_mem_set hx with hx | rfl
  · exact h x hx
  · exact h H[i] (List.getElem_mem hi)

set_option maxRecDepth 100000 in
set_option maxHeartbeats 4000000 in
theorem apart_walk {a b : Int} {A : List Ac} {al : Option Addr} {cap : Nat} (ha : (Lit.int .i64 a).wf = true) (hb : (Lit.int .i64 b).wf = true) (hA : okA A) {w : World} (h : Ag w al A.length 3 (flatA A)) :
    Calls Try.prog 4 #[.int .i64 a, .int .i64 b, .slice al A.length cap] w fun e w' => e = .returned (.bool true) ∧ Ch (fun _ => False) w w' := by
  obtain ⟨i0, hi0, hz0, hz1, hz2⟩ := info_parts info26
  have hma := h.max
  unfold maxLen at hma
  have HA := Lib.hid ha
  have HB := Lib.hid hb
  have HOK := Lib.hid hA
  have HG := Lib.hid h
  clear ha hb hA h
  by_cases hab : a = b
  · subst hab
    go_enter Try.func4, Try.ntmps4
    go_wp2_with fail
    refine (wakes_any _).mono ?_
    rintro e w1 ⟨rfl, c0⟩
    go_wp2_with fail
    go_ret
    exact ⟨rfl, c0⟩
  · have hab' : (a == b) = false := by simpa using hab
    have HNE := Lib.hid hab
    clear hab
    by_cases hlen : (60 : Int) < A.length
    · go_enter Try.func4, Try.ntmps4
      go_wp2_with fail
      refine (wakes_any _).mono ?_
      rintro e w1 ⟨rfl, c0⟩
      go_wp2_with fail
      go_ret
      exact ⟨rfl, c0⟩
    · go_enter Try.func4, Try.ntmps4
      go_wp2_with fail
      refine (wakes_any _).mono ?_
      rintro e w1 ⟨rfl, c0⟩
      have HC := Lib.hid c0
      clear c0
      go_wp2_with fail
      refine (g_new _).mono ?_
      rintro e w2 ⟨p, m, rfl, s0⟩
      go_wp2_with fail
      refine (g_take_yes s0 HB.out (by omega) rfl (by simp)).mono ?_
      rintro e w3 ⟨xb, rfl, s1⟩
      have H0 : Hid (SG w1 p m (fun _ => false) [(xb, b, false)] [] 1 (.slice none 0 0) w3) := ⟨s1.rebase, World.ownsRow_nil _ _ _ _⟩
      clear s0 s1
      go_wp2_with fail
      go_loopw [42, 10, 12, 13, 14] (fun i v _ _ _ wr => ∃ (k : Nat) (H : List Ho) (sh : Int → Bool), k ≤ A.length ∧ i = .int .i64 k ∧ H.length ≤ k ∧ (∀ x ∈ H, x.2.1 = a) ∧ sh b = false ∧ Hid (SG w1 p m sh [(xb, b, false)] H (1 + 2 * k) v wr)) (fun i _ _ _ _ _ => A.length - (intOf i).toNat)
      case atStart => exact ⟨0, [], _, Nat.zero_le _, rfl, Nat.le_refl _, (fun x hx => by cases hx), rfl, H0⟩
      case round =>
        obtain ⟨k, H, sh, hk, rfl, hHk, hkeys, hshb, HS⟩ := hrel
        clear H0
        have HKEYS := Lib.hid hkeys
        have HSHB := Lib.hid hshb
        clear hkeys hshb
        obtain ⟨va, vcap, rfl⟩ := row_of _ HS.out.own
        by_cases hlt : k < A.length
        · obtain ⟨g, o, rfl, hg, hcells⟩ := ((HG.out.ch HC.out).ch HS.out.sk.ch).cells (by omega)
          obtain ⟨e0, e1, e2⟩ := flatA_get A k hlt
          have d0 := hcells _ _ e0
          have d1 := hcells _ _ e1
          have d2 := hcells _ _ e2
          rw [← Nat.add_assoc] at d1 d2
          obtain ⟨⟨q0, q1⟩, -, q2, q3⟩ := HOK.out _ (List.getElem_mem hlt)
          have HS1 := fun o => Lib.hid (HS.out.step ((Ch.refl (fun _ => False) wr).alloc o))
          clear hcells e0 e1 e2 HS
          by_cases h0 : A[k].1 % 3 = 0
          · cases hsa : sh a with
            | false =>
              have HSA := Lib.hid hsa
              clear hsa
              go_wp2_with fail
              refine (g_take_yes (SG.sk (HS1 _).out) HA.out (by omega) HSA.out (by simp; omega)).mono ?_
              rintro e w4 ⟨x, rfl, s4⟩
              have S4 := Lib.hid s4
              clear s4
              go_wp2_with (at_builtin; refine wpList_append_own _ rfl _ _ 25 rfl w1.heap.size 26 i0 (.pointer none) 1 8 Try.underlying25 hi0 hz0 hz1 hz2 rfl (by decide) _ _ _ rfl ((HS1 _).out.own1 S4.out _) ⟨w4.heap.size, 0, none⟩ 1 1 [.pointer (some ⟨x, 0, none⟩)] rfl rfl ?a1 ?a2 ?a3 ?a4 ?a5 ?_)
              case a1 => exact cell_one_new _ _ _
              case a2 => simp [Value.oneCell']
              case a3 => unfold maxLen; omega
              case a4 => omega
              case a5 => have := S4.out.ch.size; simp; omega
              intro v' w5 hown5 hgrow5 _
              have HN := Lib.hid ((HS1 _).out.push S4.out hgrow5 hown5)
              have HK2 : ∀ y ∈ H ++ [(x, a, false)], y.2.1 = a := fun y hy => by
                rcases List.mem_append.1 hy with hy | hy
                · exact HKEYS.out y hy
                · simp at hy; subst hy; rfl
              have HK2 := Lib.hid HK2
              clear S4 hown5 hgrow5 HS1
              go_wp2_with fail
              refine (g_held (SG.sk HN.out) HB.out).mono ?_
              rintro e w8 ⟨rfl, h8⟩
              rw [show cnt b ([(xb, b, false)] ++ (H ++ [(x, a, false)])) = 1 by rw [cnt_append, cnt_other HK2.out HNE.out]; simp [cnt]]
              have HN8 := Lib.hid (HN.out.keep h8 rfl rfl)
              clear h8 HN
              go_wp2_with fail
              refine (g_shut_no (SG.sk HN8.out) HB.out (by omega) (by rw [cnt_append, cnt_other HK2.out HNE.out]; simp [cnt])).mono ?_
              rintro e w9 ⟨rfl, h9⟩
              have HN9 := Lib.hid (HN8.out.keep h9 rfl rfl)
              clear h9 HN8
              go_wp2_with fail
              go_roundw
              case rel => exact ⟨k + 1, (H ++ [(x, a, false)]), sh, by omega, by go_num, by simp; omega, HK2.out, HSHB.out, Lib.hid (HN9.out.mono (by omega))⟩
              case measure => simp [intOf]; omega
            | true =>
              have HSA := Lib.hid hsa
              clear hsa
              go_wp2_with fail
              refine (g_take_no (SG.sk (HS1 _).out) HA.out (by omega) HSA.out).mono ?_
              rintro e w4 ⟨rfl, s4⟩
              have HN := Lib.hid ((HS1 _).out.keep s4 rfl rfl)
              clear s4 HS1
              go_wp2_with fail
              refine (g_held (SG.sk HN.out) HB.out).mono ?_
              rintro e w8 ⟨rfl, h8⟩
              rw [show cnt b ([(xb, b, false)] ++ H) = 1 by rw [cnt_append, cnt_other HKEYS.out HNE.out]; simp [cnt]]
              have HN8 := Lib.hid (HN.out.keep h8 rfl rfl)
              clear h8 HN
              go_wp2_with fail
              refine (g_shut_no (SG.sk HN8.out) HB.out (by omega) (by rw [cnt_append, cnt_other HKEYS.out HNE.out]; simp [cnt])).mono ?_
              rintro e w9 ⟨rfl, h9⟩
              have HN9 := Lib.hid (HN8.out.keep h9 rfl rfl)
              clear h9 HN8
              go_wp2_with fail
              go_roundw
              case rel => exact ⟨k + 1, H, sh, by omega, by go_num, by omega, HKEYS.out, HSHB.out, Lib.hid (HN9.out.mono (by omega))⟩
              case measure => simp [intOf]; omega
          · by_cases h1 : A[k].1 % 3 = 1
            · by_cases hpos : (0 : Int) < H.length
              · obtain ⟨j, hj⟩ : ∃ j : Nat, A[k].2.2 % (H.length : Int) = j := ⟨(A[k].2.2 % (H.length : Int)).toNat, by have := Int.emod_nonneg A[k].2.2 (b := (H.length : Int)) (by omega); omega⟩
                have hjl : j < H.length := by have := Int.emod_lt_of_pos A[k].2.2 hpos; omega
                have hform := (HS1 (.cells #[.int .u8 A[k].1, .int .i64 A[k].2.1, .int .u8 A[k].2.2] 35)).out.form (by omega)
                obtain ⟨vg, vcap', ev, hcell⟩ := hform
                simp only [Value.slice.injEq] at ev
                obtain ⟨rfl, -, rfl⟩ := ev
                have hcj := hcell j hjl
                clear hcell
                cases hfr : H[j].2.2 with
                | false =>
                  have HFR := Lib.hid hfr
                  clear hfr
                  go_wp2_with fail
                  refine (g_free_yes (SG.sk (HS1 _).out) (i := j + 1) (by simp; omega) HFR.out).mono ?_
                  rintro e w4 ⟨rfl, s4⟩
                  have HN := Lib.hid ((HS1 _).out.keep (H' := H.set j (H[j].1, H[j].2.1, true)) s4 (hps_set H j hjl true) (by simp))
                  clear s4 HS1
                  go_wp2_with fail
                  refine (g_held (SG.sk HN.out) HB.out).mono ?_
                  rintro e w8 ⟨rfl, h8⟩
                  rw [show cnt b ([(xb, b, false)] ++ (H.set j (H[j].1, H[j].2.1, true))) = 1 by rw [cnt_append, cnt_other (set_keys hjl HKEYS.out) HNE.out]; simp [cnt]]
                  have HN8 := Lib.hid (HN.out.keep h8 rfl rfl)
                  clear h8 HN
                  go_wp2_with fail
                  refine (g_shut_no (SG.sk HN8.out) HB.out (by omega) (by rw [cnt_append, cnt_other (set_keys hjl HKEYS.out) HNE.out]; simp [cnt])).mono ?_
                  rintro e w9 ⟨rfl, h9⟩
                  have HN9 := Lib.hid (HN8.out.keep h9 rfl rfl)
                  clear h9 HN8
                  go_wp2_with fail
                  go_roundw
                  case rel => exact ⟨k + 1, (H.set j (H[j].1, H[j].2.1, true)), sh, by omega, by go_num, by simp; omega, (set_keys hjl HKEYS.out), HSHB.out, Lib.hid (HN9.out.mono (by omega))⟩
                  case measure => simp [intOf]; omega
                | true =>
                  have HFR := Lib.hid hfr
                  clear hfr
                  go_wp2_with fail
                  refine (g_free_no (SG.sk (HS1 _).out) (i := j + 1) (by simp; omega) HFR.out).mono ?_
                  rintro e w4 ⟨rfl, s4⟩
                  have HN := Lib.hid ((HS1 _).out.keep s4 rfl rfl)
                  clear s4 HS1
                  go_wp2_with fail
                  refine (g_held (SG.sk HN.out) HB.out).mono ?_
                  rintro e w8 ⟨rfl, h8⟩
                  rw [show cnt b ([(xb, b, false)] ++ H) = 1 by rw [cnt_append, cnt_other HKEYS.out HNE.out]; simp [cnt]]
                  have HN8 := Lib.hid (HN.out.keep h8 rfl rfl)
                  clear h8 HN
                  go_wp2_with fail
                  refine (g_shut_no (SG.sk HN8.out) HB.out (by omega) (by rw [cnt_append, cnt_other HKEYS.out HNE.out]; simp [cnt])).mono ?_
                  rintro e w9 ⟨rfl, h9⟩
                  have HN9 := Lib.hid (HN8.out.keep h9 rfl rfl)
                  clear h9 HN8
                  go_wp2_with fail
                  go_roundw
                  case rel => exact ⟨k + 1, H, sh, by omega, by go_num, by omega, HKEYS.out, HSHB.out, Lib.hid (HN9.out.mono (by omega))⟩
                  case measure => simp [intOf]; omega
              · have HN := HS1 (.cells #[.int .u8 A[k].1, .int .i64 A[k].2.1, .int .u8 A[k].2.2] 35)
                clear HS1
                go_wp2_with fail
                refine (g_held (SG.sk HN.out) HB.out).mono ?_
                rintro e w8 ⟨rfl, h8⟩
                rw [show cnt b ([(xb, b, false)] ++ H) = 1 by rw [cnt_append, cnt_other HKEYS.out HNE.out]; simp [cnt]]
                have HN8 := Lib.hid (HN.out.keep h8 rfl rfl)
                clear h8 HN
                go_wp2_with fail
                refine (g_shut_no (SG.sk HN8.out) HB.out (by omega) (by rw [cnt_append, cnt_other HKEYS.out HNE.out]; simp [cnt])).mono ?_
                rintro e w9 ⟨rfl, h9⟩
                have HN9 := Lib.hid (HN8.out.keep h9 rfl rfl)
                clear h9 HN8
                go_wp2_with fail
                go_roundw
                case rel => exact ⟨k + 1, H, sh, by omega, by go_num, by omega, HKEYS.out, HSHB.out, Lib.hid (HN9.out.mono (by omega))⟩
                case measure => simp [intOf]; omega
            · by_cases hc : 0 < cnt a ([(xb, b, false)] ++ H)
              · have HCN := Lib.hid hc
                clear hc
                go_wp2_with fail
                refine (g_shut_no (SG.sk (HS1 _).out) HA.out (by omega) HCN.out).mono ?_
                rintro e w4 ⟨rfl, s4⟩
                have HN := Lib.hid ((HS1 _).out.keep s4 rfl rfl)
                clear s4 HS1
                go_wp2_with fail
                refine (g_held (SG.sk HN.out) HB.out).mono ?_
                rintro e w8 ⟨rfl, h8⟩
                rw [show cnt b ([(xb, b, false)] ++ H) = 1 by rw [cnt_append, cnt_other HKEYS.out HNE.out]; simp [cnt]]
                have HN8 := Lib.hid (HN.out.keep h8 rfl rfl)
                clear h8 HN
                go_wp2_with fail
                refine (g_shut_no (SG.sk HN8.out) HB.out (by omega) (by rw [cnt_append, cnt_other HKEYS.out HNE.out]; simp [cnt])).mono ?_
                rintro e w9 ⟨rfl, h9⟩
                have HN9 := Lib.hid (HN8.out.keep h9 rfl rfl)
                clear h9 HN8
                go_wp2_with fail
                go_roundw
                case rel => exact ⟨k + 1, H, sh, by omega, by go_num, by omega, HKEYS.out, HSHB.out, Lib.hid (HN9.out.mono (by omega))⟩
                case measure => simp [intOf]; omega
              · have HCN := Lib.hid (show cnt a ([(xb, b, false)] ++ H) = 0 by have := cnt_nonneg a ([(xb, b, false)] ++ H); omega)
                clear hc
                go_wp2_with fail
                refine (g_shut_yes (SG.sk (HS1 _).out) HA.out (by omega) HCN.out).mono ?_
                rintro e w4 ⟨rfl, s4⟩
                have HN := Lib.hid ((HS1 _).out.keep s4 rfl rfl)
                clear s4 HS1
                go_wp2_with fail
                refine (g_held (SG.sk HN.out) HB.out).mono ?_
                rintro e w8 ⟨rfl, h8⟩
                rw [show cnt b ([(xb, b, false)] ++ H) = 1 by rw [cnt_append, cnt_other HKEYS.out HNE.out]; simp [cnt]]
                have HN8 := Lib.hid (HN.out.keep h8 rfl rfl)
                clear h8 HN
                go_wp2_with fail
                refine (g_shut_no (SG.sk HN8.out) HB.out (by omega) (by rw [cnt_append, cnt_other HKEYS.out HNE.out]; simp [cnt])).mono ?_
                rintro e w9 ⟨rfl, h9⟩
                have HN9 := Lib.hid (HN8.out.keep h9 rfl rfl)
                clear h9 HN8
                go_wp2_with fail
                go_roundw
                case rel => exact ⟨k + 1, H, (upd sh a true), by omega, by go_num, by omega, HKEYS.out, (by rw [upd_other _ _ (Ne.symm HNE.out)]; exact HSHB.out), Lib.hid (HN9.out.mono (by omega))⟩
                case measure => simp [intOf]; omega
        · go_wp2_with fail
          refine (g_free_yes (SG.sk HS.out) (i := 0) (by simp) rfl).mono ?_
          rintro e w4 ⟨rfl, s4⟩
          have S4 : Hid (SK w1 wr p m sh ((xb, b, true) :: H) (1 + 2 * k) w4) := s4
          have E0 : Hid (cnt b ((xb, b, true) :: H) = 0) := by simp [Hid, cnt, cnt_other HKEYS.out HNE.out]
          clear s4 HS
          go_wp2_with fail
          refine (g_held S4.out HB.out).mono ?_
          rintro e w5 ⟨rfl, s5⟩
          rw [E0.out]
          go_wp2_with fail
          refine (g_shut_yes s5 HB.out (by omega) E0.out).mono ?_
          rintro e w6 ⟨rfl, s6⟩
          go_wp2_with fail
          go_ret
          exact ⟨rfl, HC.out.trans s6.ch (fun _ h _ => h)⟩
end Go.Proofs.Ytklnbfelcpnbeaa
