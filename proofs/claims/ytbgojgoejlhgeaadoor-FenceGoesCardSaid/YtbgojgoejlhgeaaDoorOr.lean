/- ranges.Set.Or of two sets. Conditions: the sets lie in memory; they are not too long. -/
import Derived.Test.YtbgojgoejlhgeaaDoorG43
import Derived.Test.YtbgojgoejlhgeaaDoorK1
namespace Go.Proofs.YtbgojgoejlhgeaaDoor.Pr
open Go.RowKit Go.Proofs.YtbgojgoejlhgeaaDoorW.PrintWords
theorem concat_f (a b : List S42) (ha : a.length < 100000) (hb : b.length < 100000) : Ev (fun k => slices_Concat43.f k [a, b]) (a ++ b) := by
  have w0 : wrap64 (0 + 1) = 1 := by decide +kernel
  have w1 : wrap64 (1 + 1) = 2 := by decide +kernel
  have e0 : rd_L2 [a, b] 0 = a := rfl
  have e1 : rd_L2 [a, b] 1 = b := rfl
  have s3 : Ev (fun k => slices_Concat43.l1 k (a ++ b) [a, b] 2 2) (a ++ b) := Ev.up (f := fun _ => some (a ++ b)) (Ev.now _) fun k => by rw [slices_Concat43.l1, if_neg (by decide)]
  have s2 : Ev (fun k => slices_Concat43.l1 k a [a, b] 2 1) (a ++ b) := Ev.up s3 fun k => by
    rw [slices_Concat43.l1, if_pos (by decide), if_pos (by decide), if_pos (by simp), e1, if_pos (by omega), w1]
  have s1 : Ev (fun k => slices_Concat43.l1 k [] [a, b] 2 0) (a ++ b) := Ev.up s2 fun k => by
    rw [slices_Concat43.l1, if_pos (by decide), if_pos (by decide), if_pos (by simp), e0, if_pos (by simp; omega), w0]; rfl
  have t2 : Ev (fun k => slices_Concat43.l0 k [a, b] (a.length + b.length : Int) [a, b] 2 2) (a ++ b) := by
    refine Ev.up (f := fun k => slices_Concat43.l1 k [] [a, b] 2 0) s1 fun k => ?_
    rw [slices_Concat43.l0, if_neg (by decide)]
    have : slices_Grow42.f [] (a.length + b.length : Int) = some [] := by unfold slices_Grow42.f; rw [if_pos ⟨rfl, by omega, by omega⟩]
    rw [this]; rfl
  have t1 : Ev (fun k => slices_Concat43.l0 k [a, b] (a.length : Int) [a, b] 2 1) (a ++ b) := Ev.up t2 fun k => by
    have : wrap64 ((a.length : Int) + (b.length : Int)) = a.length + b.length := by unfold wrap64; omega
    rw [slices_Concat43.l0, if_pos (by decide), if_pos (by decide), if_pos (by simp), e1, this, if_neg (by omega), w1]
  have t0 : Ev (fun k => slices_Concat43.l0 k [a, b] 0 [a, b] 2 0) (a ++ b) := Ev.up t1 fun k => by
    have : wrap64 (0 + (a.length : Int)) = a.length := by unfold wrap64; omega
    rw [slices_Concat43.l0, if_pos (by decide), if_pos (by decide), if_pos (by simp), e0, this, if_neg (by omega), w0]
  exact t0
theorem of_c {w : World} {l : List S42} {A : Option Addr} {c : Nat} (h : Kd.C k42 w A l.length l) (hc : l.length ≤ c) (hl : l.length < 8796093022208) : Calls Tryd.prog 29 #[.slice A l.length c] w (SetPost w (ofL l)) := by
  refine (ranges_Of.calls _ _ _ _ w h hc (show ranges_Of.f l = some (ofL l) by unfold ranges_Of.f; rw [if_pos hl])).mono ?_
  rintro e w' ⟨v, rfl, hr, hb⟩
  obtain ⟨A, c, rfl, a, b⟩ := Kd.R_reads hr
  exact ⟨A, c, rfl, b, a, hb⟩
theorem of_r {w : World} {l : List S42} {A : Option Addr} {c : Nat} (h : Kd.C k42 w A l.length l) (hc : l.length ≤ c) (hl : l.length < 8796093022208) : Calls Tryd.prog 29 #[.slice A l.length c] w fun e w' => ∃ A' c', e = .returned (.agg #[.slice A' (ofL l).length c']) ∧ Kd.R k42 42 w' w.heap.size (fun _ => True) (.slice A' (ofL l).length c') (ofL l) ∧ Below w.heap.size w w' := by
  refine (ranges_Of.calls _ _ _ _ w h hc (show ranges_Of.f l = some (ofL l) by unfold ranges_Of.f; rw [if_pos hl])).mono ?_
  rintro e w' ⟨v, rfl, hr, hb⟩
  have hr' := hr
  obtain ⟨A, c, rfl, a, b⟩ := Kd.R_reads hr
  exact ⟨A, c, rfl, hr', hb⟩
theorem R_slice {w : World} {l : List S42} {A : Option Addr} {c base : Nat} {ok : Nat → Prop} (h : Kd.R k42 42 w base ok (.slice A l.length c) l) : Kd.C k42 w A l.length l ∧ l.length ≤ c := by
  obtain ⟨A', c', e, a, b⟩ := Kd.R_reads h
  injection e with e1 e2 e3
  subst e1 e3
  exact ⟨b, a⟩
theorem two_new {w : World} {a b : List S42} {A B : Option Addr} {c d : Nat} (h : Kd.C k42 w A a.length a) (hc : a.length ≤ c) (h' : Kd.C k42 w B b.length b) (hd : b.length ≤ d) :
    Kd.C (Kd.slice 42 k42) (w.alloc (.cells #[.slice A a.length c, .slice B b.length d] 22)) (some ⟨w.heap.size, 0, none⟩) 2 [a, b] := by
  refine ⟨rfl, by omega, fun _ => ⟨_, rfl, fun j p hj => ?_⟩⟩
  have hn := new_obj w (.cells #[.slice A a.length c, .slice B b.length d] 22)
  match j, hj with
  | 0, hj =>
    cases hj
    refine ⟨[.slice A a.length c], rfl, ⟨A, c, rfl, hc, Kd.C_alloc h _⟩, fun i u hu => ?_⟩
    match i, hu with
    | 0, hu => cases hu; exact cellO hn rfl
  | 1, hj =>
    cases hj
    refine ⟨[.slice B b.length d], rfl, ⟨B, d, rfl, hd, Kd.C_alloc h' _⟩, fun i u hu => ?_⟩
    match i, hu with
    | 0, hu => cases hu; exact cellO hn rfl
set_option maxRecDepth 100000 in
theorem or_r {w : World} {a b : List S42} {A B : Option Addr} {c d : Nat} (h : Kd.C k42 w A a.length a) (hc : a.length ≤ c) (h' : Kd.C k42 w B b.length b) (hd : b.length ≤ d) (ha : a.length < 100000) (hb : b.length < 100000) :
    Calls Tryd.prog 28 #[.agg #[.slice A a.length c], .agg #[.slice B b.length d]] w fun e w' => ∃ A' c', e = .returned (.agg #[.slice A' (ofL (a ++ b)).length c']) ∧ Kd.R k42 42 w' w.heap.size (fun _ => True) (.slice A' (ofL (a ++ b)).length c') (ofL (a ++ b)) ∧ Below w.heap.size w w' := by
  have HA := Lib.hid h
  have HB := Lib.hid h'
  have HL : Hid (a.length < 100000 ∧ b.length < 100000) := ⟨ha, hb⟩
  have HC : Hid (a.length ≤ c ∧ b.length ≤ d) := ⟨hc, hd⟩
  clear h h' ha hb hc hd
  go_enter Tryd.func28, Tryd.ntmps28
  go_wp2_with fail
  have b1 := (Below.refl _ w).alloc (Nat.le_refl _) (.cells #[.slice A a.length c] 29)
  have b2 := b1.alloc b1.size (.cells #[.slice B b.length d] 29)
  have HW := Lib.hid (b2.alloc b2.size (.cells #[.slice none 0 0] 29))
  have hz := new_obj ((w.alloc (.cells #[.slice A a.length c] 29)).alloc (.cells #[.slice B b.length d] 29)) (.cells #[.slice none 0 0] 29)
  have hs2 : ((w.alloc (.cells #[.slice A a.length c] 29)).alloc (.cells #[.slice B b.length d] 29)).heap.size = w.heap.size + 1 + 1 := by simp
  rw [hs2] at hz
  have HZ := Lib.hid hz
  have hs3 : (((w.alloc (.cells #[.slice A a.length c] 29)).alloc (.cells #[.slice B b.length d] 29)).alloc (.cells #[.slice none 0 0] 29)).heap.size = w.heap.size + 1 + 1 + 1 := by simp
  have HS := Lib.hid hs3
  clear b1 b2 hz hs2 hs3
  have HA3 := Lib.hid (Kd.C_below HA.out HW.out)
  have HB3 := Lib.hid (Kd.C_below HB.out HW.out)
  generalize (((w.alloc (.cells #[.slice A a.length c] 29)).alloc (.cells #[.slice B b.length d] 29)).alloc (.cells #[.slice none 0 0] 29)) = w3 at HW HZ HS HA3 HB3 ⊢
  obtain ⟨k, hf⟩ := (concat_f a b HL.out.1 HL.out.2).rounds
  have HT := Lib.hid (two_new HA3.out HC.out.1 HB3.out HC.out.2)
  have HZ4 := Lib.hid (blk_alloc HZ.out (.cells #[.slice A a.length c, .slice B b.length d] 22))
  have HW4 : Hid (Below w.heap.size w (w3.alloc (.cells #[.slice A a.length c, .slice B b.length d] 22))) := HW.out.alloc HW.out.size _
  rw [← HS.out]
  generalize w3.alloc (.cells #[.slice A a.length c, .slice B b.length d] 22) = w4 at HT HZ4 HW4 ⊢
  clear HA HB HA3 HB3 HC HW HZ
  have HY : Hid ((a ++ b).length < 8796093022208) := by show _ < _; have := HL.out.1; have := HL.out.2; rw [List.length_append]; omega
  generalize hy : a ++ b = y at hf HY ⊢
  have HYe := Lib.hid hy
  clear hy
  refine (slices_Concat43.calls k _ _ _ _ _ HT.out (Nat.le_refl _) hf).mono ?_
  rintro e w5 ⟨v, rfl, hr, hb⟩
  obtain ⟨A5, c5, rfl, l5, r5⟩ := Kd.R_reads hr
  have HR5 := Lib.hid r5
  have HZ5 := Lib.hid (blk_of HZ4.out hb)
  have HW5 := Lib.hid (HW4.out.trans (hb.mono HW4.out.size))
  clear hr r5 hb hf HT HZ4 HW4
  go_wp2_with fail
  have hof := of_r HR5.out l5 HY.out
  generalize hLe : ofL y = L at hof ⊢
  have HLe := Lib.hid hLe
  clear hLe
  refine hof.mono ?_
  rintro e w6 ⟨A6, c6, rfl, r6, hb⟩
  have hz := blk_of HZ5.out hb
  have hz0 := cellO (off := 0) hz rfl
  have hzf := frozenO (off := 0) hz
  have HLT := Lib.hid (blk_lt HZ5.out)
  have HW5s := Lib.hid HW5.out.size
  have HR6 := Lib.hid r6
  have HW6 := Lib.hid (HW5.out.trans (hb.mono HW5.out.size))
  have hz1 := cellO (off := 0) (blk_set hz 0 (.slice A6 L.length c6)) rfl
  clear hof hz r6 hb HR5 HZ5 HW5
  go_wp2_with fail
  have hr := Kd.R_far (Kd.R_bound HR6.out) (p := ⟨w.heap.size + 1 + 1, 0, none⟩) (fun k hk => by have := hk.2.1; have := HLT.out; show k ≠ w.heap.size + 1 + 1; omega) (.slice A6 L.length c6)
  refine bodyPost_ret (v := .agg #[.slice A6 L.length c6]) (by simp [results, Tryd.results28, go_sem, hz1]) rfl ?_
  show ∃ A' c', _ = Ending.returned (.agg #[.slice A' (ofL (a ++ b)).length c']) ∧ Kd.R k42 42 _ w.heap.size (fun _ => True) (.slice A' (ofL (a ++ b)).length c') (ofL (a ++ b)) ∧ Below w.heap.size w _
  rw [HYe.out, HLe.out]
  have hr2 := Kd.R_lower (Kd.R_mono hr (fun _ _ => trivial : ∀ k, _ → (fun _ : Nat => True) k)) HW5s.out
  exact ⟨A6, c6, rfl, hr2, below_set HW6.out (by omega)⟩
end Go.Proofs.YtbgojgoejlhgeaaDoor.Pr
