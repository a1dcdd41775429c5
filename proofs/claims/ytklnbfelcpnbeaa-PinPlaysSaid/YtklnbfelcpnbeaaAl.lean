/- What the call All on Pins does: the keys that are held, rising. Conditions: the Pins lie in memory as New laid them. -/
import Derived.Test.YtklnbfelcpnbeaaG
import Derived.Test.YtklnbfelcpnbeaaSo
import Derived.Sort.OwnSortedInts
import Derived.Maps.RangeWalk
namespace Go.Proofs.Ytklnbfelcpnbeaa
open Go.RowKit Go.Maps Go.ChangeMaps Go.WideMaps Go.MuLone Go.Sort

theorem info2 : (Try.prog.info? 2).map (fun i => (i.zero, i.size, i.bytes)) = some (some (.int .i64 0), 1, 8) := by kernel_rfl
/-- just those that are held, rising, each once -/
structure IsAll (hd : Int → Int) (ss : List Int) : Prop where
  nodup : ss.Nodup
  sorted : ss.Pairwise (fun a b => a ≤ b)
  mem : ∀ n, n ∈ ss ↔ 0 < hd n
theorem IsAll.unique {hd : Int → Int} {ss ss' : List Int} (h : IsAll hd ss) (h' : IsAll hd ss') : ss = ss' :=
  List.Perm.eq_of_pairwise (fun a b _ _ h1 h2 => Int.le_antisymm h1 h2) h.sorted h'.sorted ((List.perm_ext_iff_of_nodup h.nodup h'.nodup).2 fun k => by rw [h.mem, h'.mem])

/-- what was met of a map, so far as it is held -/
structure Col (D : DataW Unit) (hd : Int → Int) (left : Lit → Bool) (ss : List Int) : Prop where
  nodup : ss.Nodup
  sub : ∀ n, left (ik n) = true → Maps.has D (ik n) = true
  mem : ∀ n, n ∈ ss ↔ Maps.has D (ik n) = true ∧ left (ik n) = false ∧ 0 < hd n
theorem sameKey_ik (a b : Int) : (ik a).sameKey (ik b) = decide (a = b) := by
  by_cases h : a = b
  · subst h; simp [Lit.sameKey]
  · have : (ik a).sameKey (ik b) = false := by
      cases hs : (ik a).sameKey (ik b)
      · rfl
      · have := WideAt.sameKey_eq hs; cases this; exact absurd rfl h
    rw [this]; simp [h]
theorem Col.start (D : DataW Unit) (hd : Int → Int) : Col D hd (Maps.has D) [] := ⟨by simp, fun _ h => h, fun n => by simp; intro h1 h2; rw [h1] at h2; cases h2⟩
theorem Col.skip {D : DataW Unit} {hd : Int → Int} {left : Lit → Bool} {ss : List Int} (h : Col D hd left ss) {x : Int} (hl : left (ik x) = true) (hz : ¬ 0 < hd x) : Col D hd (fun z => left z && !z.sameKey (ik x)) ss := by
  refine ⟨h.nodup, fun n hn => h.sub n (by simp at hn; exact hn.1), fun n => ?_⟩
  rw [h.mem, sameKey_ik]
  by_cases e : n = x
  · subst e; simp [hz]
  · simp [e]
theorem Col.push {D : DataW Unit} {hd : Int → Int} {left : Lit → Bool} {ss : List Int} (h : Col D hd left ss) {x : Int} (hl : left (ik x) = true) (hp : 0 < hd x) : Col D hd (fun z => left z && !z.sameKey (ik x)) (ss ++ [x]) := by
  have hx : x ∉ ss := fun hm => by have := ((h.mem x).1 hm).2.1; rw [hl] at this; cases this
  refine ⟨List.nodup_append.2 ⟨h.nodup, by simp, fun a ha b hb e => ?_⟩, fun n hn => h.sub n (by simp at hn; exact hn.1), fun n => ?_⟩
  · simp at hb; subst hb; subst e; exact hx ha
  · rw [List.mem_append, h.mem, sameKey_ik]
    by_cases e : n = x
    · subst e; simp [hp, h.sub n hl]
    · simp [e]

section
variable {w0 w1 : World} {p m : Nat} {l : Int} {hd : Int → Int} {sh : Int → Bool} {H : List Ho} {N : Nat} {K : KM} {w : World} {n : Int}

theorem Rk_shape (v : Value) (y : DataW Unit × List MemPlace) (h : Rk v = some y) : ∃ c, v = pv c ∧ y.1 = pd c := by
  unfold Rk at h
  split at h
  · cases h; exact ⟨none, rfl, rfl⟩
  · rename_i b; cases h; exact ⟨some b, rfl, rfl⟩
  · cases h

theorem sort_any (g cap : Nat) (zs : List Int) (w : World) (hH : Holds (Value.int .i64) w g 0 zs.toArray) (hg : g < w.heap.size) (hsz : zs.length < 4611686018427387904) :
    Calls Try.prog 31 #[.slice (some ⟨g, 0, none⟩) zs.length cap] w fun e w' => e = .returned (.tuple #[]) ∧ ∃ n os, w' = grow (putRow (Value.int .i64) (Sort.ahead w n) g 0 (zs.mergeSort fun x y => decide (x ≤ y)).toArray) os :=
  AnyM.slices_Sort_int Try.sort31 g 0 cap zs w hH hg hsz
theorem sort_none (q : Option Addr) (cap : Nat) (w : World) : Calls Try.prog 31 #[.slice q 0 cap] w fun e w' => e = .returned (.tuple #[]) ∧ w' = w :=
  AnyM.slices_Sort_int_none Try.sort31 q cap w

/-- the sort of a row of the call's own -/
theorem sort_row {base cap : Nat} {a : Option Addr} {zs : List Int} {wb w : World} (h : w.ownsRow base 2 1 (.slice a zs.length cap) zs.length (zs.map (Value.int .i64))) (hb : wb.heap.size ≤ base) (hsz : zs.length < 1000000) (c : Ch (fun _ => False) wb w) :
    Calls Try.prog 31 #[.slice a zs.length cap] w fun e w' => e = .returned (.tuple #[]) ∧
      w'.ownsRow base 2 1 (.slice a zs.length cap) zs.length ((zs.mergeSort fun x y => decide (x ≤ y)).map (Value.int .i64)) ∧ Ch (fun _ => False) wb w' := by
  rcases h.2 with ⟨hv, hz⟩ | ⟨g, cap', cur, hv, hg, hh, h1, h2, h3, h4⟩
  · have : zs = [] := List.eq_nil_of_length_eq_zero hz
    subst this
    refine (sort_none a cap w).mono ?_
    rintro e w' ⟨rfl, rfl⟩
    exact ⟨rfl, by simpa using h, c⟩
  · cases hv
    refine (sort_any g cap zs w (holds_of_blockI hh (by simpa using h4)) (lt_of_obj hh) (by omega)).mono ?_
    rintro e w' ⟨rfl, k, os, rfl⟩
    exact ⟨rfl, ownsRow_sortedI (by simp) hg hh h1 h2 h3, c.grown (grownBy_sortedI _) (fun j hj => by cases hj; right; omega)⟩
theorem isAll_of {hd : Int → Int} {D : DataW Unit} {left : Lit → Bool} {ss : List Int} (h : Col D hd left ss) (hl : ∀ kl, left kl = false) (hK : ∀ n, 0 < hd n → Maps.has D (ik n) = true) : IsAll hd (ss.mergeSort fun x y => decide (x ≤ y)) := by
  have hp := List.mergeSort_perm ss (fun x y => decide (x ≤ y))
  refine ⟨hp.nodup_iff.2 h.nodup, ?_, fun n => ?_⟩
  · have := List.pairwise_mergeSort (le := fun x y : Int => decide (x ≤ y)) (fun a b c h1 h2 => by simp at *; omega) (fun a b => by simp; omega) ss
    exact this.imp (fun h => by simpa using h)
  · rw [hp.mem_iff, h.mem]
    exact ⟨fun h => h.2.2, fun h => ⟨hK n h, hl _, h⟩⟩

set_option maxRecDepth 100000 in
set_option maxHeartbeats 2000000 in
theorem all_any (h : ST w0 w1 p m 0 hd sh H N K w) (hN : N < 100000) :
    Calls Try.prog 21 #[.pointer (some ⟨p, 0, none⟩)] w fun e w' => ∃ a cap ss, e = .returned (.slice a ss.length cap) ∧ w'.ownsRow w.heap.size 2 1 (.slice a ss.length cap) ss.length (ss.map (Value.int .i64)) ∧ IsAll hd ss ∧ ss.length ≤ N ∧ ST w0 w1 p m 0 hd sh H N K w' := by
  obtain ⟨i0, hi0, hz0, hz1, hz2⟩ := info_parts info2
  have invK : ∀ key kl, keyOf Try.prog 2 key = some kl → ∃ x, key = Value.int .i64 x := fun key kl hkey => by obtain ⟨x, rfl, _⟩ := Maps.keyOf_int_inv Try.underlying2 hkey; exact ⟨x, rfl⟩
  have invV : ∀ v y, Rk v = some y → ∃ c, v = pv c := fun v y hv => by obtain ⟨c, rfl, _⟩ := Rk_shape v y hv; exact ⟨c, rfl⟩
  have c0 := h.p0
  have z0 := h.z0
  have h1 := h.setL 1
  obtain ⟨D, hm, hr⟩ := h1.map
  have HK : Hid (∀ n, 0 < hd n → Maps.has D (ik n) = true) := fun n hn => by
    rw [hr.has]
    cases hk : K n with
    | none => have := (h.no n hk).1; omega
    | some b => rfl
  have hsz : Maps.size D ≤ N := hm.size_le
  have c2 := cell_of (off := 2) (v := .map (some m)) h1.obj rfl
  have H1 := Lib.hid h1
  have HR := Lib.hid hr
  have HM := Lib.hid hm
  clear h h1 hr hm
  go_enter_defers Try.func21, Try.ntmps21
  go_wp2_with (first
    | (go_at_call 23; refine (lock_free muLib ⟨p, 0, none⟩ _ c0 z0).mono ?_; rintro e w' ⟨rfl, rfl⟩)
    | (at_range; refine wpList_range_own _ rfl _ 55 rfl 2 65 law2 Try.underlying55 Rk m N D rfl HM.out ?_; intro wa hrg0 hg0 hs0))
  go_frame
  have e0 : (w.setCell ⟨p, 0, none⟩ (.int .i32 1)).heap.size = w.heap.size := by simp
  have HC0 : Ch (fun _ => False) (w.setCell ⟨p, 0, none⟩ (.int .i32 1)) wa := (Ch.refl _ _).grown hg0 (fun _ h => by cases h)
  clear hg0 c2
  generalize hr0 : (w.setCell ⟨p, 0, none⟩ (.int .i32 1)).heap.size = r at *
  have HR0 := Lib.hid hr0
  have HE0 := Lib.hid e0
  clear hr0 e0
  go_loopw [3] (fun out wr => ∃ (left : Lit → Bool) (cnt : Nat) (ss : List Int), wr.ranges Try.prog 2 Rk m r N D left cnt ∧ Hid (Col D hd left ss) ∧ ss.length + cnt ≤ N ∧ wr.ownsRow w.heap.size 2 1 out ss.length (ss.map (Value.int .i64)) ∧ Ch (fun _ => False) (w.setCell ⟨p, 0, none⟩ (.int .i32 1)) wr) (fun _ wr => wr.rangeLeft m r)
  case atStart => exact ⟨Maps.has D, Maps.size D, [], hrg0, Col.start D hd, by simp; exact hsz, World.ownsRow_nil _ _ _ _, HC0⟩
  case round =>
    obtain ⟨left, cnt, ss, hrg, hcol, hsc, hown, hch⟩ := hrel
    clear hrg0 hs0 HC0
    obtain ⟨oa, ocap, rfl⟩ := row_of _ hown
    go_wp2_with (at_next; refine wpList_next_ranges _ rfl _ rfl 2 law2 Rk (Value.int .i64) pv invK invV m r N D left cnt rfl hrg ?_ ?_)
    · intro hc0 hl0
      have HO := Lib.hid hown
      have HC := Lib.hid hch
      have HL := Lib.hid hl0
      clear hrg hown hch hl0
      go_wp2_with fail
      refine (sort_row HO.out (by simp) (by omega) HC.out).mono ?_
      rintro e w3 ⟨rfl, own3, c3⟩
      have h3 := H1.out.step c3
      go_wp2_with fail
      refine leaves_cons (f := 24) (args := #[.pointer (some ⟨p, 0, none⟩)]) (by simp) (by simp [go_sem]) ?_
      refine (unlock_deferred muLib ⟨p, 0, none⟩ .returning _ h3.p0 h3.z0).mono ?_
      rintro e u' w'' ⟨rfl, rfl, rfl⟩
      have el : (ss.mergeSort fun x y => decide (x ≤ y)).length = ss.length := by simp
      refine ⟨_, results_tmp rfl _ _ _, oa, ocap, ss.mergeSort (fun x y => decide (x ≤ y)), ?_, ?_, isAll_of hcol.out HL.out HK.out, by omega, h3.setL 0⟩
      · rw [el]; rfl
      · rw [el]
        exact (ownsRow_setCell_below own3 (by have := lt_of_obj H1.out.obj; simpa using this) _)
    · intro x c kl y yp w2 cnt2 hkey hlk hv hat hrg2 hlt hgr hsz2 hen
      obtain ⟨x', ex, rfl, hwx⟩ := Maps.keyOf_int_inv Try.underlying2 hkey
      cases ex
      obtain ⟨c', e1, e2⟩ := Rk_shape _ _ hv
      have hat0 := hat .nil
      have hat1 := HR.out.at_ x
      have hhas := (HR.out.has x).symm.trans (hcol.out.sub x hlk)
      obtain ⟨b, hb⟩ := Option.isSome_iff_exists.1 hhas
      have ec : c = some b := by
        have e3 : y = pd (K x) := by rw [← hat1]; exact hat0.symm
        rw [hb] at e3
        subst e3
        cases c with
        | none => simp [pv, Rk, pd] at hv
        | some d =>
          simp [pv, Rk, pd] at hv
          have : d = b := by omega
          rw [this]
      subst ec
      have hc2 : Ch (fun _ => False) (w.setCell ⟨p, 0, none⟩ (.int .i32 1)) w2 := hch.grown hgr (fun j hj => by cases hj; right; rw [HR0.out]; exact Nat.le_refl _)
      have h2 := H1.out.step hc2
      have c1 := h2.k1 hb
      have own2 : w2.ownsRow w.heap.size 2 1 (.slice oa ss.length ocap) ss.length (ss.map (Value.int .i64)) := by
        refine World.ownsRow.kept hown hgr (.inr fun e => ?_)
        obtain ⟨_, cs, z, hj⟩ := own_obj hown e
        obtain ⟨es, clock, since, seen, c0', _, _, _, _, hrr, _⟩ := hrg
        rw [hrr] at hj; cases hj
      have HRG := Lib.hid hrg2
      have HO := Lib.hid own2
      have HC := Lib.hid hc2
      have HLK := Lib.hid hlk
      have HLT := Lib.hid hlt
      have HLE := Lib.hid (hrg2.left_eq)
      have HLE0 := Lib.hid (hrg.left_eq)
      clear hsz2 hlt hkey hv hat hat0 hat1 hhas e1 e2 hrg2 hgr hrg hown hch own2 hc2 h2 hlk
      simp only [pv] at hen ⊢
      by_cases hpos : 0 < hd x
      · go_wp2_with (first
          | (go_at_call 29; refine (load_any c1).mono ?_; rintro e w' ⟨rfl, rfl⟩)
          | (at_builtin; refine wpList_append_own _ rfl _ _ 37 rfl w.heap.size 2 i0 (.int .i64 0) 1 8 Try.underlying37 hi0 hz0 hz1 hz2 rfl (by decide) _ _ _ rfl (HO.out.alloc _) ⟨w2.heap.size, 0, none⟩ 1 1 [.int .i64 x] rfl rfl ?a1 ?a2 ?a3 ?a4 ?a5 ?_))
        case a1 => exact cell_one_new _ _ _
        case a2 => simp [Value.oneCell']
        case a3 => unfold maxLen; have := HLT.out; omega
        case a4 => have := HLT.out; omega
        case a5 => have := HC.out.size; simp at this; simp; omega
        intro v' w4 hown4 hgrow4 _
        have hrg4 : w4.ranges Try.prog 2 Rk m r N D (fun z => left z && !z.sameKey (.int .i64 x)) cnt2 := by
          refine (HRG.out.alloc (.cells #[.int .i64 x] 2)).kept hgrow4 (fun e => ?_) (fun e => ?_)
          · obtain ⟨_, cs, z, hj⟩ := own_obj (HO.out.alloc (.cells #[.int .i64 x] 2)) e.symm
            obtain ⟨es, clock, since, seen, c0', hbm, _⟩ := HRG.out.alloc (.cells #[.int .i64 x] 2)
            rw [hbm] at hj; cases hj
          · obtain ⟨_, cs, z, hj⟩ := own_obj (HO.out.alloc (.cells #[.int .i64 x] 2)) e.symm
            obtain ⟨es, clock, since, seen, c0', _, _, _, _, hrr, _⟩ := HRG.out.alloc (.cells #[.int .i64 x] 2)
            rw [hrr] at hj; cases hj
        have HR4 := Lib.hid hrg4
        have HC4 := Lib.hid ((HC.out.alloc (.cells #[.int .i64 x] 2)).grown hgrow4 (fun j hj => by
          obtain ⟨h1, _⟩ := own_obj (HO.out.alloc (.cells #[.int .i64 x] 2)) hj
          right; simpa using h1))
        have HL4 := Lib.hid hrg4.left_eq
        clear hrg4 hgrow4
        go_wp2
        go_roundw
        case rel => exact ⟨_, cnt2, ss ++ [x], HR4.out, hcol.out.push HLK.out hpos, by have := HLT.out; rw [List.length_append]; simp; omega, by rw [List.length_append, List.map_append]; exact hown4, HC4.out⟩
        case measure => rw [HL4.out, HLE0.out]; exact HLT.out
      · go_wp2_with (go_at_call 29; refine (load_any c1).mono ?_; rintro e w' ⟨rfl, rfl⟩)
        go_roundw
        case rel => exact ⟨_, cnt2, ss, HRG.out, hcol.out.skip HLK.out (by omega), by have := HLT.out; omega, HO.out, HC.out⟩
        case measure => rw [HLE.out, HLE0.out]; exact HLT.out
end
end Go.Proofs.Ytklnbfelcpnbeaa
