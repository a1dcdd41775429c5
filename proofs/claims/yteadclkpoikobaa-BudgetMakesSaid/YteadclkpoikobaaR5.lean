/- What the reference's Tenants does. Conditions: the list of lines lies in memory. -/
import Derived.Test.YteadclkpoikobaaR2
import Derived.Test.YteadclkpoikobaaPu
import Derived.Test.YteadclkpoikobaaB5
import Derived.Maps.AppendAt
namespace Go.Proofs.Yteadclkpoikobaa
open Go.RowKit Go.Maps Go.ChangeMaps Go.WideMaps

theorem info9 : (Try.prog.info? 9).map (fun i => (i.zero, i.size, i.bytes)) = some (some (.string ⟨#[]⟩), 1, 16) := by kernel_rfl

theorem ownsRow_drewN {w : World} {base : Nat} {e : TypeId} {size : Nat} {v : Value} {n : Nat} {xs : List Value} (h : w.ownsRow base e size v n xs) (k : Nat) : (w.drewN k).ownsRow base e size v n xs := h
/-- what the outer loop keeps -/
structure TS (w : World) (x y : Int) (v0 : Value) (a : Option Addr) (L : List Ln) (out : Value) (O : List ByteArray) (W : World) : Prop where
  rs : RS w w.heap.size x y v0 a L.length (flat L) W
  own : W.ownsRow (w.heap.size + 1) 9 1 out O.length (strs O)
theorem strs_append (A B : List ByteArray) : strs (A ++ B) = strs A ++ strs B := by simp [strs]
theorem TS.step {w : World} {x y : Int} {v0 : Value} {a : Option Addr} {L : List Ln} {out : Value} {O : List ByteArray} {W W' : World} (h : TS w x y v0 a L out O W) (c : Ch (fun _ => False) W W') : TS w x y v0 a L out O W' :=
  ⟨h.rs.step c, c.ownsRow h.own (fun _ _ h => h)⟩
theorem length_tenS (out : List ByteArray) (x : Ln) : (tenS out x).length ≤ out.length + 1 := by
  unfold tenS; split
  · omega
  · have := (ins_perm x.1 out).length_eq; simp at this; omega
theorem length_tenF (L : List Ln) : (tenF L).length ≤ L.length := by
  suffices ∀ (L : List Ln) (o : List ByteArray), (L.foldl tenS o).length ≤ o.length + L.length from by have := this L []; simpa [tenF] using this
  intro L
  induction L with
  | nil => intro o; simp
  | cons x r ih => intro o; have := ih (tenS o x); have := length_tenS o x; simp only [List.foldl_cons, List.length_cons] at *; omega
theorem length_insF (t : ByteArray) (O : List ByteArray) : (insF t O).2.length ≤ O.length + 1 := by
  have h := (ins_perm t O).length_eq
  unfold ins at h
  split at h
  · simp at h; omega
  · simp at h; omega

theorem insS_keep {t o : ByteArray} {r : Bool × List ByteArray} (h : r.1 = true ∨ gtS o t = false) : insS t r o = (r.1, r.2 ++ [o]) := by
  unfold insS
  rw [if_neg]
  rcases h with h | h <;> simp [h]
theorem insS_put {t o : ByteArray} {r : Bool × List ByteArray} (h : r.1 = false) (h' : gtS o t = true) : insS t r o = (true, r.2 ++ [t] ++ [o]) := by
  unfold insS
  rw [if_pos (by simp [h, h'])]
/-- the inner list grows: nothing that lay before has turned -/
theorem app_ch {wo wi w1 : World} {l : Value} {n : Nat} {xs : List Value} {o : Obj} {k : Nat} (hc : Ch (fun _ => False) wo wi) (hown : wi.ownsRow wo.heap.size 9 1 l n xs) (hg : ((wi.drewN k).alloc o).grownBy w1 l.ownBlock) : Ch (fun _ => False) wo w1 :=
  ((hc.trans (chN (fun _ => False) wi k) (fun _ h _ => h)).alloc o).grown hg (fun b hb => .inr (hown.lt b hb).1)

set_option maxRecDepth 100000 in
set_option maxHeartbeats 2000000 in
theorem rten_any {x y : Int} {L : List Ln} {a : Option Addr} {cap : Nat} {w : World} (h : Sl w 71 a L.length 2 (flat L)) (hlen : L.length < 1000000) :
    Calls Try.prog 35 #[refV x y (.slice a L.length cap)] w fun e w' => ∃ a' cap', e = .returned (.slice a' (tenF L).length cap') ∧ Sl w' 9 a' (tenF L).length 1 (strs (tenF L)) ∧ Ch (fun _ => False) w w' := by
  obtain ⟨i0, hi0, hz0, hz1, hz2⟩ := info_parts info9
  have H0 : TS w x y (.slice a L.length cap) a L (.slice none 0 0) [] (w.alloc (.cells #[.int .i64 x, .int .i64 y, .slice a L.length cap] 32)) := ⟨RS.start h, World.ownsRow_nil _ _ _ _⟩
  clear h
  go_enter Try.func35, Try.ntmps35
  go_wp2_with fail
  go_loopw [3, 4] (fun out i wr => ∃ k : Nat, k ≤ L.length ∧ i = .int .i64 k ∧ TS w x y (.slice a L.length cap) a L out (tenF (L.take k)) wr) (fun _ i _ => L.length - (intOf i).toNat)
  case atStart => exact ⟨0, Nat.zero_le _, rfl, H0⟩
  case round =>
    obtain ⟨k, hk, rfl, ht⟩ := hrel
    obtain ⟨oa, ocap, rfl, hso⟩ := sl_of_row ht.own
    have c2 := ht.rs.c2
    clear H0
    by_cases hlt : k < L.length
    · obtain ⟨g, rfl, hg, hcells⟩ := ht.rs.sl.cells (by omega)
      have d0 := hcells _ _ (flat_get0 L k hlt)
      have d1 := hcells _ _ (flat_get1 L k hlt)
      have HF := Lib.hid (tenF_succ L k hlt)
      have hl1 := length_tenF (L.take k)
      rw [List.length_take] at hl1
      have HT := Lib.hid ht
      have HSO := Lib.hid hso
      clear hcells ht hso
      generalize tenF (L.take k) = O at *
      by_cases h0 : L[k].2 = 0
      · have hb : (L[k].2 == 0) = true := by simpa using h0
        have HE := Lib.hid h0
        clear h0
        go_wp2_with fail
        go_roundw
        case rel => exact ⟨k + 1, by omega, by go_num, by rw [HF.out, tenS, if_pos HE.out]; exact HT.out⟩
        case measure => simp [intOf]; omega
      · have hb : (L[k].2 == 0) = false := by simpa using h0
        have HE := Lib.hid h0
        clear h0
        go_wp2_with fail
        obtain ⟨wo, rfl⟩ : ∃ wo : World, wo = wr := ⟨_, rfl⟩
        go_loopw [5, 6, 7] (fun l put j wi => ∃ q : Nat, q ≤ O.length ∧ j = .int .i64 q ∧ put = .bool (insF L[k].1 (O.take q)).1 ∧ Ch (fun _ => False) wo wi ∧ wi.ownsRow wo.heap.size 9 1 l (insF L[k].1 (O.take q)).2.length (strs (insF L[k].1 (O.take q)).2)) (fun _ _ j _ => O.length - (intOf j).toNat)
        case atStart => exact ⟨0, Nat.zero_le _, rfl, rfl, Ch.refl _ _, World.ownsRow_nil _ _ _ _⟩
        case round =>
          obtain ⟨q, hq, rfl, rfl, hc, hown⟩ := hrel
          obtain ⟨la, lcap, rfl, _⟩ := sl_of_row hown
          have hsz := hc.size
          have hT2 := HT.out.step hc
          have c2 := hT2.rs.c2
          have d0 : wr.cell? ⟨g, k * 2, none⟩ = some (.string L[k].1) := (hc.cell hg (fun h => h)).trans d0
          have ll := length_insF L[k].1 (O.take q)
          rw [List.length_take] at ll
          by_cases hql : q < O.length
          · obtain ⟨go, rfl, hgo, ocells⟩ := (HSO.out.ch hc noF).cells (by omega)
            have o0 := ocells _ _ (strs_get O q hql)
            have HQ := Lib.hid (insF_succ L[k].1 O q hql)
            have HC := Lib.hid hc
            have HO := Lib.hid hown
            clear ocells hc hown hT2
            cases hp : (insF L[k].1 (O.take q)).1 with
            | true =>
              have HP := Lib.hid hp
              clear hp
              go_wp2_with fail
              go_quiet (fail)
              go_wp2_with (at_builtin; refine wpList_append_own _ rfl _ _ 40 rfl wo.heap.size 9 i0 (.string ⟨#[]⟩) 1 16 Try.underlying40 hi0 hz0 hz1 hz2 rfl (by decide) _ _ _ rfl ((ownsRow_drewN HO.out _).alloc _) ⟨wr.heap.size, 0, none⟩ 1 1 [.string O[q]] rfl rfl ?a1 ?a2 ?a3 ?a4 ?a5 ?_)
              case a1 => exact cell_one_new _ _ _
              case a2 => simp [Value.oneCell']
              case a3 => unfold maxLen; omega
              case a4 => omega
              case a5 => simp; omega
              intro v' w1 hown1 hgrow1 _
              go_wp2
              go_roundw
              case rel => exact ⟨q + 1, by omega, by go_num, by rw [HQ.out, insS_keep (.inl HP.out), HP.out], app_ch HC.out HO.out hgrow1, by rw [HQ.out, insS_keep (.inl HP.out), strs_append, List.length_append]; exact hown1⟩
              case measure => simp [intOf]; omega
            | false =>
              have HP := Lib.hid hp
              clear hp
              by_cases hgt : gtS O[q] L[k].1 = true
              · have HG := Lib.hid hgt
                have hg1 : (!(Op.bytesLess O[q].toList L[k].1.toList || O[q].toList == L[k].1.toList)) = true := hgt
                clear hgt
                go_wp2_with fail
                go_quiet (fail)
                go_wp2_with (at_builtin; refine wpList_append_own _ rfl _ _ 40 rfl wo.heap.size 9 i0 (.string ⟨#[]⟩) 1 16 Try.underlying40 hi0 hz0 hz1 hz2 rfl (by decide) _ _ _ rfl ((ownsRow_drewN HO.out _).alloc _) ⟨wr.heap.size, 0, none⟩ 1 1 [.string L[k].1] rfl rfl ?b1 ?b2 ?b3 ?b4 ?b5 ?_)
                case b1 => exact cell_one_new _ _ _
                case b2 => simp [Value.oneCell']
                case b3 => unfold maxLen; omega
                case b4 => omega
                case b5 => simp; omega
                intro v' w1 hown1 hgrow1 _
                have hc1 := app_ch HC.out HO.out hgrow1
                obtain ⟨l1, lc1, hv1, _⟩ := sl_of_row hown1
                subst hv1
                have HO1 := Lib.hid hown1
                have HC1 := Lib.hid hc1
                have hs1 := hc1.size
                have o0 : w1.cell? ⟨go, q, none⟩ = some (.string O[q]) := by
                  obtain ⟨go', e', _, oc⟩ := (HSO.out.ch hc1 noF).cells (by omega)
                  cases e'
                  exact oc _ _ (strs_get O q hql)
                clear hown1 hc1 hgrow1
                go_wp2_with (at_builtin; refine wpList_append_own _ rfl _ _ 40 rfl wo.heap.size 9 i0 (.string ⟨#[]⟩) 1 16 Try.underlying40 hi0 hz0 hz1 hz2 rfl (by decide) _ _ _ rfl (HO1.out.alloc _) ⟨w1.heap.size, 0, none⟩ 1 1 [.string O[q]] rfl rfl ?c1 ?c2 ?c3 ?c4 ?c5 ?_)
                case c1 => exact cell_one_new _ _ _
                case c2 => simp [Value.oneCell']
                case c3 => unfold maxLen; omega
                case c4 => omega
                case c5 => simp; omega
                intro v2 w2 hown2 hgrow2 _
                have hc2 := app_ch (k := 0) HC1.out HO1.out hgrow2
                go_wp2
                go_roundw
                case rel => exact ⟨q + 1, by omega, by go_num, by rw [HQ.out, insS_put HP.out HG.out], hc2, by rw [HQ.out, insS_put HP.out HG.out, strs_append, strs_append, List.length_append, List.length_append, List.append_assoc]; exact hown2⟩
                case measure => simp [intOf]; omega
              · have hgf : gtS O[q] L[k].1 = false := by simpa using hgt
                have HG := Lib.hid hgf
                have hg1 : (!(Op.bytesLess O[q].toList L[k].1.toList || O[q].toList == L[k].1.toList)) = false := hgf
                clear hgt hgf
                go_wp2_with fail
                go_quiet (fail)
                go_wp2_with (at_builtin; refine wpList_append_own _ rfl _ _ 40 rfl wo.heap.size 9 i0 (.string ⟨#[]⟩) 1 16 Try.underlying40 hi0 hz0 hz1 hz2 rfl (by decide) _ _ _ rfl ((ownsRow_drewN HO.out _).alloc _) ⟨wr.heap.size, 0, none⟩ 1 1 [.string O[q]] rfl rfl ?d1 ?d2 ?d3 ?d4 ?d5 ?_)
                case d1 => exact cell_one_new _ _ _
                case d2 => simp [Value.oneCell']
                case d3 => unfold maxLen; omega
                case d4 => omega
                case d5 => simp; omega
                intro v' w1 hown1 hgrow1 _
                go_wp2
                go_roundw
                case rel => exact ⟨q + 1, by omega, by go_num, by rw [HQ.out, insS_keep (.inr HG.out), HP.out], app_ch HC.out HO.out hgrow1, by rw [HQ.out, insS_keep (.inr HG.out), strs_append, List.length_append]; exact hown1⟩
                case measure => simp [intOf]; omega
          · obtain rfl : q = O.length := by omega
            have he : O.take O.length = O := List.take_length
            rw [he] at hown ll ⊢
            have hlt0 := HT.out.rs.lt
            have HC := Lib.hid hc
            have HO := Lib.hid hown
            have HQ := HF.out
            rw [tenS, if_neg HE.out, ins] at HQ
            have HQQ := Lib.hid HQ
            clear hc hown hT2 he HQ
            cases hp : (insF L[k].1 O).1 with
            | true =>
              have HP := Lib.hid hp
              go_wp2_with fail
              go_roundw
              case rel => exact ⟨k + 1, by omega, by go_num, (HT.out.rs.step HC.out), by rw [HQQ.out, if_pos HP.out]; exact ownsRow_base HO.out (by omega)⟩
              case measure => simp [intOf]; omega
            | false =>
              have HP := Lib.hid hp
              go_wp2_with (at_builtin; refine wpList_append_own _ rfl _ _ 40 rfl wo.heap.size 9 i0 (.string ⟨#[]⟩) 1 16 Try.underlying40 hi0 hz0 hz1 hz2 rfl (by decide) _ _ _ rfl (HO.out.alloc _) ⟨wr.heap.size, 0, none⟩ 1 1 [.string L[k].1] rfl rfl ?e1 ?e2 ?e3 ?e4 ?e5 ?_)
              case e1 => exact cell_one_new _ _ _
              case e2 => simp [Value.oneCell']
              case e3 => unfold maxLen; omega
              case e4 => omega
              case e5 => simp; omega
              intro v' w1 hown1 hgrow1 _
              have hc1 := app_ch (k := 0) HC.out HO.out hgrow1
              go_wp2
              go_roundw
              case rel => exact ⟨k + 1, by omega, by go_num, (HT.out.rs.step hc1), by rw [HQQ.out, if_neg (by rw [HP.out]; decide), strs_append, List.length_append]; exact ownsRow_base hown1 (by omega)⟩
              case measure => simp [intOf]; omega
    · obtain rfl : k = L.length := by omega
      have e : Hid (tenF (L.take L.length) = tenF L) := by unfold Hid; rw [List.take_length]
      have HT := Lib.hid ht
      have HSO := Lib.hid hso
      clear ht hso
      go_wp2_with fail
      go_ret
      rw [e.out] at *
      exact ⟨oa, ocap, rfl, by have := HSO.out; rw [e.out] at this; exact this, HT.out.rs.ch⟩
end Go.Proofs.Yteadclkpoikobaa
