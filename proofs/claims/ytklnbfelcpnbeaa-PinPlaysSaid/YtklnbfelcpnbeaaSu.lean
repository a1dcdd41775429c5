/- Holds that are taken, and not freed, are as many as all keys are held together: the walk of PinSums. Conditions: the arguments lie in memory. -/
import Derived.Test.YtklnbfelcpnbeaaSh
namespace Go.Proofs.Ytklnbfelcpnbeaa
open Go.RowKit Go.Maps Go.MuLone

/-- how many holds were not freed -/
def unf : List Ho → Int
  | [] => 0
  | h :: r => (if h.2.2 = false then 1 else 0) + unf r
theorem unf_append (A B : List Ho) : unf (A ++ B) = unf A + unf B := by
  induction A with
  | nil => simp [unf]
  | cons h r ih => simp only [List.cons_append, unf, ih]; omega
theorem unf_set (A : List Ho) (i : Nat) (hi : i < A.length) (hf : A[i].2.2 = false) : unf (A.set i (A[i].1, A[i].2.1, true)) = unf A - 1 := by
  induction A generalizing i with
  | nil => simp at hi
  | cons h r ih =>
    cases i with
    | zero =>
      simp only [List.getElem_cons_zero] at hf
      simp only [List.set_cons_zero, List.getElem_cons_zero, unf, hf]; simp; omega
    | succ i =>
      simp only [List.getElem_cons_succ] at hf
      have := ih i (by simpa using hi) hf
      simp only [List.set_cons_succ, List.getElem_cons_succ, unf, this]; omega
theorem unf_rng (A : List Ho) : 0 ≤ unf A ∧ unf A ≤ A.length := by
  induction A with
  | nil => simp [unf]
  | cons h r ih => simp only [unf, List.length_cons]; split <;> omega
/-- what is held of some keys together -/
def sumC (H : List Ho) : List Int → Int
  | [] => 0
  | n :: r => cnt n H + sumC H r
theorem sumC_append (H : List Ho) (A : List Int) (n : Int) : sumC H (A ++ [n]) = sumC H A + cnt n H := by
  induction A with
  | nil => simp [sumC]
  | cons x r ih => simp only [List.cons_append, sumC, ih]; omega
theorem sumC_cons (h : Ho) (H : List Ho) (ss : List Int) (hn : ss.Nodup) : sumC (h :: H) ss = sumC H ss + (if h.2.2 = false ∧ h.2.1 ∈ ss then 1 else 0) := by
  induction ss with
  | nil => simp [sumC]
  | cons n r ih =>
    rw [List.nodup_cons] at hn
    have := ih hn.2
    simp only [sumC, cnt, this]
    by_cases e : h.2.1 = n
    · have : h.2.1 ∉ r := e ▸ hn.1
      by_cases f : h.2.2 = false <;> simp [e, f, hn.1] <;> omega
    · by_cases f : h.2.2 = false <;> by_cases g : h.2.1 ∈ r <;> simp [e, f, g] <;> omega
theorem sumC_unf (H : List Ho) (ss : List Int) (hn : ss.Nodup) (hm : ∀ h ∈ H, h.2.2 = false → h.2.1 ∈ ss) : sumC H ss = unf H := by
  induction H with
  | nil =>
    have : ∀ r : List Int, sumC [] r = 0 := fun r => by induction r with
      | nil => rfl
      | cons n r ih => simp [sumC, cnt, ih]
    simp [this, unf]
  | cons h r ih =>
    rw [sumC_cons h r ss hn, ih fun x hx => hm x (by simp [hx])]
    simp only [unf]
    by_cases f : h.2.2 = false
    · have := hm h (by simp) f
      simp [f, this]; omega
    · simp [f]
theorem cnt_pos_mem {A : List Ho} {h : Ho} (hh : h ∈ A) (hf : h.2.2 = false) : 0 < cnt h.2.1 A := by
  obtain ⟨i, hi, rfl⟩ := List.mem_iff_getElem.1 hh
  exact cnt_pos A i hi hf
theorem sumC_all {H : List Ho} {ss : List Int} (h : IsAll (fun n => cnt n H) ss) : sumC H ss = unf H :=
  sumC_unf H ss h.nodup fun x hx hf => (h.mem _).2 (cnt_pos_mem hx hf)
theorem sumC_take (H : List Ho) (ss : List Int) (k : Nat) (h : k < ss.length) : sumC H (ss.take (k + 1)) = sumC H (ss.take k) + cnt ss[k] H := by
  rw [List.take_succ_eq_append_getElem h, sumC_append]
theorem sumC_nonneg (H : List Ho) (ss : List Int) : 0 ≤ sumC H ss := by
  induction ss with
  | nil => simp [sumC]
  | cons n r ih => have := cnt_nonneg n H; simp only [sumC]; omega
theorem sumC_take_le (H : List Ho) (ss : List Int) (k : Nat) : sumC H (ss.take k) ≤ sumC H ss := by
  induction ss generalizing k with
  | nil => simp [sumC]
  | cons n r ih =>
    cases k with
    | zero => simp only [List.take_zero, sumC]; have := cnt_nonneg n H; have := sumC_nonneg H r; omega
    | succ k => have := ih k; simp only [List.take_succ_cons, sumC]; omega
theorem ints_form {w : World} {base n cap : Nat} {e : TypeId} {a : Option Addr} {ss : List Int} (h : w.ownsRow base e 1 (.slice a n cap) n (ss.map (Value.int .i64))) (hl : ss.length = n) (hn : 0 < n) :
    ∃ g, a = some ⟨g, 0, none⟩ ∧ ∀ j (hj : j < ss.length), w.cell? ⟨g, j, none⟩ = some (.int .i64 ss[j]) := by
  have hc := fun g hg j u hu => h.cells (g := g) hg j u hu
  rcases h.2 with ⟨hv, hz⟩ | ⟨g, cap', cur, hv, _⟩
  · omega
  · cases hv
    refine ⟨g, rfl, fun j hj => ?_⟩
    have := hc g rfl j (.int .i64 ss[j]) (by simp [hj])
    have e : (⟨g, 0, none⟩ : Addr).add j = ⟨g, j, none⟩ := by unfold Addr.add; split <;> simp_all
    rwa [e] at this

/-- the holds' keys are numbers of their kind -/
def wfH (H : List Ho) : Prop := ∀ x ∈ H, (Lit.int .i64 x.2.1).wf = true
theorem wfH_set {H : List Ho} (h : wfH H) {i : Nat} (hi : i < H.length) (d : Bool) : wfH (H.set i (H[i].1, H[i].2.1, d)) := by
  intro x hx
  rcases List.mem_or_eq_of_mem_set hx with hx | rfl
  · exact h x hx
  · exact h H[i] (List.getElem_mem hi)
theorem wfH_push {H : List Ho} (h : wfH H) {x : Nat} {n : Int} {d : Bool} (hn : (Lit.int .i64 n).wf = true) : wfH (H ++ [(x, n, d)]) := by
  intro y hy
  rcases List.mem_append.1 hy with hy | hy
  · exact h y hy
  · simp at hy; subst hy; exact hn
theorem wfH_cnt {H : List Ho} (h : wfH H) {n : Int} (hp : 0 < cnt n H) : (Lit.int .i64 n).wf = true := by
  induction H with
  | nil => simp [cnt] at hp
  | cons x r ih =>
    by_cases e : x.2.1 = n
    · rw [← e]; exact h x (by simp)
    · exact ih (fun y hy => h y (by simp [hy])) (by simpa [cnt, e] using hp)

/-- numbers as cells -/
def ints (q : IntKind) (L : List Int) : List Value := L.map (Value.int q)
theorem ints_get (q : IntKind) (L : List Int) (k : Nat) (h : k < L.length) : (ints q L)[k]? = some (.int q L[k]) := by simp [ints, h]

set_option maxRecDepth 100000 in
set_option maxHeartbeats 4000000 in
theorem sums_walk {L F : List Int} {la fa : Option Addr} {lc fc : Nat} (hL : ∀ x ∈ L, (Lit.int .i64 x).wf = true) (hF : ∀ x ∈ F, 0 ≤ x ∧ x ≤ 255) {w : World} (h : Ag w la L.length 1 (ints .i64 L)) (h' : Ag w fa F.length 1 (ints .u8 F)) :
    Calls Try.prog 7 #[.slice la L.length lc, .slice fa F.length fc] w fun e w' => e = .returned (.bool true) ∧ Ch (fun _ => False) w w' := by
  obtain ⟨i0, hi0, hz0, hz1, hz2⟩ := info_parts info26
  have hma := h.max
  have hmb := h'.max
  unfold maxLen at hma hmb
  have HL := Lib.hid hL
  have HF := Lib.hid hF
  have HG := Lib.hid h
  have HG' := Lib.hid h'
  clear hL hF h h'
  by_cases hlen : (60 : Int) < L.length
  · go_enter Try.func7, Try.ntmps7
    go_wp2_with fail
    refine (wakes_any _).mono ?_
    rintro e w1 ⟨rfl, c0⟩
    go_wp2_with fail
    go_ret
    exact ⟨rfl, c0⟩
  · by_cases hlen2 : (60 : Int) < F.length
    · go_enter Try.func7, Try.ntmps7
      go_wp2_with fail
      refine (wakes_any _).mono ?_
      rintro e w1 ⟨rfl, c0⟩
      go_wp2_with fail
      go_ret
      exact ⟨rfl, c0⟩
    · go_enter Try.func7, Try.ntmps7
      go_wp2_with fail
      refine (wakes_any _).mono ?_
      rintro e w1 ⟨rfl, c0⟩
      have HC := Lib.hid c0
      clear c0
      go_wp2_with fail
      refine (g_new _).mono ?_
      rintro e w2 ⟨p, m, rfl, s0⟩
      have H0 : Hid (SG w1 p m (fun _ => false) [] [] 0 (.slice none 0 0) w2) := ⟨s0.rebase, World.ownsRow_nil _ _ _ _⟩
      clear s0
      go_wp2_with fail
      go_loopw [32, 6, 9, 10] (fun i v _ _ wr => ∃ (k : Nat) (H : List Ho), k ≤ L.length ∧ i = .int .i64 k ∧ H.length = k ∧ unf H = k ∧ Hid (wfH H) ∧ Hid (SG w1 p m (fun _ => false) [] H k v wr)) (fun i _ _ _ _ => L.length - (intOf i).toNat)
      case atStart => exact ⟨0, [], Nat.zero_le _, rfl, rfl, rfl, (fun x hx => by cases hx), H0⟩
      case round =>
        obtain ⟨k, H, hk, rfl, hHl, hun, HW, HS⟩ := hrel
        clear H0
        have HHL := Lib.hid hHl
        have HUN := Lib.hid hun
        clear hHl hun
        by_cases hlt : k < L.length
        · obtain ⟨g, o, rfl, hg, hcells⟩ := ((HG.out.ch HC.out).ch HS.out.sk.ch).cells (by omega)
          have d0 := hcells _ _ (ints_get .i64 L k hlt)
          have hwf := Lib.hid (HL.out _ (List.getElem_mem hlt))
          clear hcells
          go_wp2_with fail
          refine (g_take_yes (SG.sk HS.out) hwf.out (by omega) rfl (by simp; have := HHL.out; omega)).mono ?_
          rintro e w4 ⟨x, rfl, s4⟩
          have S4 := Lib.hid s4
          clear s4
          go_wp2_with (at_builtin; refine wpList_append_own _ rfl _ _ 25 rfl w1.heap.size 26 i0 (.pointer none) 1 8 Try.underlying25 hi0 hz0 hz1 hz2 rfl (by decide) _ _ _ rfl (HS.out.own1 S4.out _) ⟨w4.heap.size, 0, none⟩ 1 1 [.pointer (some ⟨x, 0, none⟩)] rfl rfl ?a1 ?a2 ?a3 ?a4 ?a5 ?_)
          case a1 => exact cell_one_new _ _ _
          case a2 => simp [Value.oneCell']
          case a3 => have := HHL.out; unfold maxLen; omega
          case a4 => have := HHL.out; omega
          case a5 => have := S4.out.ch.size; simp; omega
          intro v' w5 hown5 hgrow5 _
          have HN := Lib.hid (HS.out.push S4.out hgrow5 hown5)
          clear S4 hown5 hgrow5 HS
          go_wp2_with fail
          go_roundw
          case rel => exact ⟨k + 1, _, by omega, by go_num, by rw [List.length_append, HHL.out]; rfl, by rw [unf_append, HUN.out]; simp [unf], wfH_push HW.out hwf.out, HN⟩
          case measure => simp [intOf]; omega
        · obtain rfl : k = L.length := by omega
          obtain ⟨va, vcap, ev⟩ := row_of _ HS.out.own
          rw [HHL.out] at ev
          subst ev
          have hu0 : unf H = L.length := HUN.out
          have S2 : Hid (SG w1 p m (fun _ => false) [] H L.length (.slice va L.length vcap) wr) := HS
          have HHL2 := HHL.out
          clear HS HHL HUN hlt hk
          go_wp2_with fail
          go_loopw [57, 11, 13] (fun j lf _ wr => ∃ (q : Nat) (H' : List Ho), q ≤ F.length ∧ j = .int .i64 q ∧ lf = .int .i64 (unf H') ∧ H'.length = L.length ∧ Hid (wfH H') ∧ Hid (SG w1 p m (fun _ => false) [] H' L.length (.slice va L.length vcap) wr)) (fun j _ _ _ => F.length - (intOf j).toNat)
          case atStart => exact ⟨0, H, Nat.zero_le _, rfl, by rw [hu0], HHL2, HW, S2⟩
          case round =>
            obtain ⟨q, H', hq, rfl, rfl, hl', HWF', S⟩ := hrel
            clear S2 hu0 HHL2
            have HLE := Lib.hid hl'
            have hur := unf_rng H'
            rw [hl'] at hur
            by_cases hlq : q < F.length
            · obtain ⟨g, o, rfl, hg, hcells⟩ := ((HG'.out.ch HC.out).ch S.out.sk.ch).cells (by omega)
              have d0 := hcells _ _ (ints_get .u8 F q hlq)
              obtain ⟨q2, q3⟩ := HF.out _ (List.getElem_mem hlq)
              clear hcells
              by_cases hpos : (0 : Int) < L.length
              · obtain ⟨j, hj⟩ : ∃ j : Nat, F[q] % (L.length : Int) = j := ⟨(F[q] % (L.length : Int)).toNat, by have := Int.emod_nonneg F[q] (b := (L.length : Int)) (by omega); omega⟩
                have hjL : j < L.length := by have := Int.emod_lt_of_pos F[q] hpos; omega
                have hjl : j < H'.length := by omega
                obtain ⟨vg, vcap', ev, hcell⟩ := S.out.form (by omega)
                simp only [Value.slice.injEq] at ev
                obtain ⟨rfl, -, rfl⟩ := ev
                have hcj := hcell j hjl
                clear hcell hl'
                cases hfr : H'[j].2.2 with
                | false =>
                  have HFR := Lib.hid hfr
                  clear hfr
                  go_wp2_with fail
                  refine (g_free_yes (SG.sk S.out) (i := j) hjl HFR.out).mono ?_
                  rintro e w4 ⟨rfl, s4⟩
                  have HN := Lib.hid (S.out.keep (H' := H'.set j (H'[j].1, H'[j].2.1, true)) s4 (hps_set H' j hjl true) (by simp))
                  clear s4 S
                  go_wp2_with fail
                  go_roundw
                  case rel => exact ⟨q + 1, _, by omega, by go_num, by rw [unf_set H' j hjl HFR.out], by simp [HLE.out], wfH_set HWF'.out hjl true, HN⟩
                  case measure => simp [intOf]; omega
                | true =>
                  have HFR := Lib.hid hfr
                  clear hfr
                  go_wp2_with fail
                  refine (g_free_no (SG.sk S.out) (i := j) hjl HFR.out).mono ?_
                  rintro e w4 ⟨rfl, s4⟩
                  have HN := Lib.hid (S.out.keep s4 rfl rfl)
                  clear s4 S
                  go_wp2_with fail
                  go_roundw
                  case rel => exact ⟨q + 1, H', by omega, by go_num, rfl, HLE.out, HWF', HN⟩
                  case measure => simp [intOf]; omega
              · go_wp2_with fail
                go_roundw
                case rel => exact ⟨q + 1, H', by omega, by go_num, rfl, HLE.out, HWF', S⟩
                case measure => simp [intOf]; omega
            · clear hl'
              go_wp2_with fail
              refine (g_all (SG.sk S.out) (by omega)).mono ?_
              rintro e w4 ⟨a, cap, ss, rfl, hr, hi, hl, s4⟩
              have HR := Lib.hid hr
              have HI := Lib.hid hi
              have HU := Lib.hid (sumC_all hi)
              have S4 : Hid (SK w1 w4 p m (fun _ => false) ([] ++ H') L.length w4) := s4.rebase
              clear hr hi s4 S
              go_wp2_with fail
              go_loopw [81, 14, 16] (fun i n _ wr => ∃ t : Nat, t ≤ ss.length ∧ i = .int .i64 t ∧ n = .int .i64 (sumC H' (ss.take t)) ∧ Hid (SK w1 w4 p m (fun _ => false) ([] ++ H') L.length wr)) (fun i _ _ _ => ss.length - (intOf i).toNat)
              case atStart => exact ⟨0, Nat.zero_le _, rfl, rfl, S4⟩
              case round =>
                obtain ⟨t, ht, rfl, rfl, S5⟩ := hrel
                clear S4
                have b1 := sumC_nonneg H' (ss.take t)
                have b2 := sumC_take_le H' ss t
                have b3 : sumC H' ss = unf H' := HU.out
                by_cases hlt3 : t < ss.length
                · obtain ⟨K5, k5⟩ := S5.out
                  have own5 := k5.keep.row HR.out (by decide) (by decide) (by decide)
                  obtain ⟨ga, rfl, hcell⟩ := ints_form own5 rfl (by omega)
                  have hct := hcell t hlt3
                  have hp : 0 < cnt ss[t] H' := (HI.out.mem ss[t]).1 (List.getElem_mem hlt3)
                  have hple := cnt_le ss[t] H'
                  rw [HLE.out] at hple
                  have b4 := sumC_take_le H' ss (t + 1)
                  rw [sumC_take H' ss t hlt3] at b4
                  have HT := Lib.hid (sumC_take H' ss t hlt3)
                  have hwf : (Lit.int .i64 ss[t]).wf = true := wfH_cnt HWF'.out hp
                  have HWF := Lib.hid hwf
                  clear hcell own5 k5 hwf
                  go_wp2_with fail
                  refine (g_held S5.out HWF.out).mono ?_
                  rintro e w6 ⟨rfl, s6⟩
                  simp only [List.nil_append]
                  have S6 := Lib.hid s6
                  clear s6 S5
                  go_wp2_with fail
                  refine (g_held S6.out HWF.out).mono ?_
                  rintro e w7 ⟨rfl, s7⟩
                  simp only [List.nil_append]
                  have S7 := Lib.hid s7
                  clear s7 S6
                  go_wp2_with fail
                  go_roundw
                  case rel => exact ⟨t + 1, by omega, by go_num, by rw [HT.out], S7⟩
                  case measure => simp [intOf]; omega
                · obtain rfl : t = ss.length := by omega
                  have e9 : sumC H' (ss.take ss.length) = unf H' := by rw [List.take_length]; exact HU.out
                  rw [e9]
                  go_wp2_with fail
                  go_ret
                  exact ⟨by simp, HC.out.trans S5.out.ch (fun _ h _ => h)⟩
end Go.Proofs.Ytklnbfelcpnbeaa
