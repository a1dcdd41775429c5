/- What the calls on a table do: Of, Unheard. Conditions: the table lies in memory. -/
import Derived.Test.YtiagnkmiibaacaaEn
namespace Go.Proofs.Ytiagnkmiibaacaa
open Go.RowKit Go.Maps Go.ChangeMaps Go.WideMaps Go.Sort
theorem look_plain {P : Program} {k : TypeId} {R : Value → Option (DataW Unit × List MemPlace)} {b n : Nat} {D : DataW Unit} {w : World} {t e : TypeId} (h : w.ownsMap P k R b n D) (K : Keyed P k) (ht : P.underlying t = some (.map k e)) {z : Value} (hz : (zeroValue e).run P w = .ok z w) {zd : DataW Unit} {zp : List MemPlace} (hzd : R z = some (zd, zp))
    {key : Value} {kl : Lit} (hkey : keyOf P k key = some kl) : ∃ v ps, (Instr.lookup t (.map (some b)) key false).run P w = .ok v w ∧ R v = some (D.atKey kl zd, ps) := by
  obtain ⟨es, clock, hb, F, _, rfl⟩ := h
  rcases Maps.fit_look false K ht hz hb F hkey with ⟨hrun, _, hat⟩ | ⟨e0, y, _, _, hrun, hRv, hat, _⟩
  · exact ⟨z, zp, hrun, by rw [hat zd]; exact hzd⟩
  · exact ⟨e0.val, y.2, hrun, by rw [hat zd]; exact hRv⟩
section
variable {F : Nat → Prop} {p m : Nat} {last : Int} {L : List FT} {N : Nat} {K : KM} {V : Int → Value} {w w' : World} {n : Int}
theorem FS.look1 (h : FS F p m last L N K V w) {n : Int} (hw : (Lit.int .i64 n).wf = true) : (Instr.lookup 85 (.map (some m)) (.int .i64 n) false).run Try.prog w = .ok (pv (K n)) w := by
  obtain ⟨D, hm, hr⟩ := h.map
  obtain ⟨v, ps, hrun, hv⟩ := look_plain hm law2 Try.underlying85 (zero89 w) Rk_none (keyOf_int_mk Try.underlying2 hw)
  rw [hr.at_] at hv
  rw [hrun, Rk_inv hv]
theorem wf_id (h : FS F p m last L N K V w) (hl : last < 1000000) {t : FT} (ht : t ∈ L) : (Lit.int .i64 t.id).wf = true := by
  have := h.rng t ht
  simp [Lit.wf, IntKind.min, IntKind.max]; simp [IntKind.signed, IntKind.bits]; omega
theorem FS.below (h : FS F p m last L N K V w) (b : Below w.heap.size w w') : FS F p m last L N K V w' := h.far (Ch.of_below b rfl) (fun _ hk => hk.elim)
def whoL (L : List FT) (x : Int) : List Int := (L.filter fun t => t.who.contains x).map FT.id
theorem whoL_snoc (L : List FT) (t : FT) (x : Int) : whoL (L ++ [t]) x = whoL L x ++ if t.who.contains x then [t.id] else [] := by
  unfold whoL
  rw [List.filter_append, List.map_append]
  by_cases h : x ∈ t.who <;> simp [h]
theorem take_snocF {α : Type} (l : List α) (k : Nat) (h : k < l.length) : l.take (k + 1) = l.take k ++ [l[k]] := List.take_succ_eq_append_getElem h
theorem whoL_len (L : List FT) (x : Int) : (whoL L x).length ≤ L.length := by
  unfold whoL; rw [List.length_map]; exact List.length_filter_le _ _
def fewWho (L : List FT) : Prop := ∀ t ∈ L, t.who.length < 1000000
set_option maxRecDepth 100000 in
set_option maxHeartbeats 2000000 in
theorem of_any (h : FS F p m last L N K V w) (hN : N < 1000000) (hlast : last < 1000000) (hL : L.length < 1000000) (hfw : fewWho L) (x : Int) :
    Calls Try.prog 16 #[.pointer (some ⟨p, 0, none⟩), .int .i64 x] w fun e w' => ∃ A c, e = .returned (.slice A (whoL L x).length c) ∧ IS w' A (whoL L x) ∧ Below w.heap.size w w' := by
  have HH := Lib.hid h
  have HLa := Lib.hid hlast
  have HLn := Lib.hid hL
  have HFw := Lib.hid hfw
  clear h hlast hL hfw
  obtain ⟨i0, hi0, hz0, hz1, hz2⟩ := info_parts info2
  go_enter Try.func16, Try.ntmps16
  go_wp2_with (go_at_call 42; refine (numbers_any HH.out hN).mono ?_; rintro e w2 ⟨A, c, rfl, hA, hb⟩)
  have HW := Lib.hid (HH.out.below hb)
  have HA := Lib.hid hA
  have HB := Lib.hid hb
  clear hA hb HH
  go_loopw [5, 11] (fun v i wr => ∃ k : Nat, k ≤ L.length ∧ i = .int .i64 k ∧ Hid (wr.ownsRow w2.heap.size 2 1 v (whoL (L.take k) x).length (ints (whoL (L.take k) x))) ∧ Hid (Below w2.heap.size w2 wr)) (fun _ i _ => L.length - (intOf i).toNat)
  case atStart => exact ⟨0, Nat.zero_le _, rfl, ⟨by simp, .inl ⟨rfl, by simp [whoL]⟩⟩, Below.refl _ _⟩
  case round =>
    obtain ⟨k, hk, rfl, HO, HR⟩ := hrel
    by_cases hlt : k < L.length
    · have hk9 : k < 1000000 := by have := HLn.out; omega
      have HS := Lib.hid (HW.out.below HR.out)
      have hmem : L[k] ∈ L := List.getElem_mem hlt
      obtain ⟨b, hkb, hit, _, _⟩ := HS.out.it L[k] hmem
      have hlk := HS.out.look1 (wf_id HS.out HLa.out hmem)
      rw [hkb] at hlk
      simp only [pv] at hlk
      obtain ⟨g, o, hAe, hg, hcell⟩ := HA.out k (by simpa using hlt)
      subst hAe
      have hid : (ids L)[k]'(by simpa using hlt) = L[k].id := by simp
      rw [hid] at hcell
      have hcell2 : wr.cell? ⟨g, o + k, none⟩ = some (.int .i64 L[k].id) := (HR.out.cell hg).trans hcell
      have hc1 := HS.out.c1
      obtain ⟨A5, c5, hv5⟩ := row_slice hit.own
      have hown := hit.own
      have c15 := cell_of (off := 15) (v := V L[k].id) hit.blk rfl
      rw [hv5] at hown c15
      have HI := Lib.hid (IS.of_row hown)
      have HWh := Lib.hid (HFw.out _ hmem)
      have hT : Hid (whoL (L.take (k + 1)) x = whoL (L.take k) x ++ if L[k].who.contains x then [L[k].id] else []) := by
        show _ = _
        rw [take_snocF L k hlt, whoL_snoc]
      clear hcell hid hg hit hown hv5 hkb
      generalize L[k].id = idk at hlk hcell2 hT c15
      have HM := Lib.hid hmem
      clear hmem
      generalize L[k].who = whk at hT HI HWh c15
      obtain ⟨cx, hcx⟩ : ∃ cx, whk.contains x = cx := ⟨_, rfl⟩
      have HCX := Lib.hid hcx
      clear hcx
      have hlenW := whoL_len (L.take k) x
      rw [List.length_take] at hlenW
      generalize whoL (L.take k) x = S at HO hT hlenW
      have hSl : S.length < 1000000 := by have := HLn.out; omega
      cases cx with
      | false =>
        go_wp2_with (go_at_call 41; refine (contains_any HI.out HWh.out x).mono ?_; rw [HCX.out]; rintro e w' ⟨rfl, rfl⟩)
        go_roundw
        case rel =>
          refine ⟨k + 1, by omega, by go_num, ?_, HR⟩
          rw [hT.out, HCX.out]
          simpa using HO
        case measure => simp [intOf]; omega
      | true =>
        go_wp2_with (first
          | (go_at_call 41; refine (contains_any HI.out HWh.out x).mono ?_; rw [HCX.out]; rintro e w' ⟨rfl, rfl⟩)
          | (at_builtin; refine wpList_append_own _ rfl _ _ 43 rfl w2.heap.size 2 i0 (.int .i64 0) 1 8 Try.underlying43 hi0 hz0 hz1 hz2 rfl (by decide) _ _ _ rfl (HO.out.alloc _) ⟨wr.heap.size, 0, none⟩ 1 1 [.int .i64 idk] rfl rfl ?a1 ?a2 ?a3 ?a4 ?a5 ?_))
        case a1 => exact cell_one_new _ _ _
        case a2 => simp [Value.oneCell']
        case a3 => unfold maxLen; omega
        case a4 => omega
        case a5 => have := HR.out.size; simp; omega
        intro v' w4 hown4 hgrow4 _
        have HO4 := Lib.hid hown4
        have HB4 : Hid (Below w2.heap.size w2 w4) := (HR.out.alloc HR.out.size _).grown hgrow4 (by have := HR.out.size; simp; omega) (fun k hk => by
          rcases HO.out.2 with ⟨hv, _⟩ | ⟨gg, cap, cur, hv, hbg, _⟩
          · rw [hv] at hk; simp [Value.ownBlock] at hk
          · rw [hv] at hk; simp [Value.ownBlock] at hk; omega)
        clear hown4 hgrow4 hlk hcell2 hc1 c15
        go_wp2
        go_roundw
        case rel =>
          refine ⟨k + 1, by omega, by go_num, ?_, HB4⟩
          rw [hT.out, HCX.out]
          simpa [ints] using HO4
        case measure => simp [intOf]; omega
    · obtain rfl : k = L.length := by omega
      have hO := HO.out
      rw [List.take_length] at hO
      obtain ⟨A6, c6, hv6⟩ := row_slice hO
      subst hv6
      have HO2 := Lib.hid (IS.of_row hO)
      clear hO HO
      go_wp2
      go_ret
      exact ⟨A6, c6, rfl, HO2.out, HB.out.trans (HR.out.mono HB.out.size)⟩
end
end Go.Proofs.Ytiagnkmiibaacaa
