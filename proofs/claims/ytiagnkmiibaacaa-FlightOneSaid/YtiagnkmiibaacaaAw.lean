/- The document's example. Conditions: none. -/
import Derived.Test.YtiagnkmiibaacaaLe
namespace Go.Proofs.Ytiagnkmiibaacaa
open Go.RowKit Go.Maps Go.ChangeMaps Go.WideMaps Go.Sort
def ex0 : Fl := ⟨0, ⟨#[47, 97]⟩, 0, 8, ⟨#[]⟩, false, ⟨#[]⟩, false, 0, 0, 0, 0, 0, false⟩
theorem ex_ok : startB ex0 = true := by decide +kernel
def exW (l : List Int) : List FT := [⟨{ ex0 with id := 1, at_ := 0 }, 8, l⟩]
theorem ex_find (l : List Int) : find (exW l) 1 = some ⟨{ ex0 with id := 1, at_ := 0 }, 8, l⟩ := rfl
theorem ex_add (l : List Int) (x : Int) : upd (exW l) 1 (addW x) = exW (l ++ [x]) := rfl
theorem ex_drop (l : List Int) (x : Int) : (exW l).map (dropW x) = exW (without l x) := rfl
theorem wf1 : (Lit.int .i64 1).wf = true := by decide
theorem ex_good {l : List Int} (h1 : l.length < 1000000) (h2 : l.Nodup) : GL (exW l) := fun t ht => by
  obtain rfl : t = _ := by simpa [exW] using ht
  exact ⟨h1, h2⟩
/-- what a function that has made a table leaves -/
theorem made_below {F0 F : Nat → Prop} {w w1 w2 : World} (c : Ch (fun _ => False) w w1) (t : Tn F0 F w1 w2) (h : ∀ k, F0 k → w.heap.size ≤ k) : Below w.heap.size w w2 :=
  ((c.mono (T := fun k => w.heap.size ≤ k) (fun _ h _ => h.elim)).trans t.ch (fun b hb _ => h b hb)).below (fun _ h => h) (Nat.le_refl _)
theorem made_foot {w : World} : ∀ k, (fun k => k = w.heap.size ∨ k = w.heap.size + 1) k → w.heap.size ≤ k := fun k hk => by rcases hk with rfl | rfl <;> omega
set_option maxRecDepth 100000 in
set_option maxHeartbeats 2000000 in
theorem awake_any (w : World) : Calls Try.prog 9 #[] w fun e w' => e = .returned (.bool true) ∧ Below w.heap.size w w' := by
  go_enter Try.func9, Try.ntmps9
  go_wp2_with fail
  refine (new_any w).mono ?_
  rintro e w1 ⟨rfl, h1, c1⟩
  have H1 := Lib.hid h1
  have C1 := Lib.hid c1
  have HFt := Lib.hid (made_foot (w := w))
  clear h1 c1
  generalize (fun k => k = w.heap.size ∨ k = w.heap.size + 1) = F0 at H1 HFt
  generalize w.heap.size + 1 = p at H1 ⊢
  go_wp2_with fail
  refine (start_ok H1.out ex0 ex_ok (by decide) (by decide)).mono ?_
  rintro e w2 ⟨rfl, F2, K2, V2, h2, t2⟩
  have H2 : Hid (FS F2 p w.heap.size 1 (exW []) 1 K2 V2 w2) := h2
  have T2 := Lib.hid t2
  clear h2 t2 H1
  go_wp2_with fail
  refine (join_yes H2.out wf1 (ex_find []) (by decide) 5 (by decide)).mono ?_
  rintro e w3 ⟨rfl, F3, V3, h3, t3⟩
  rw [ex_add] at h3
  have H3 := Lib.hid h3
  have T3 := Lib.hid (T2.out.trans t3)
  clear h3 t3 H2 T2
  go_wp2_with fail
  refine (join_yes H3.out wf1 (ex_find [5]) (by decide) 6 (by decide)).mono ?_
  rintro e w4 ⟨rfl, F4, V4, h4, t4⟩
  rw [ex_add] at h4
  have H4 := Lib.hid h4
  have T4 := Lib.hid (T3.out.trans t4)
  clear h4 t4 H3 T3
  go_wp2_with fail
  refine (leave_any H4.out (by decide) (by decide) (by decide) (ex_good (by decide) (by decide)) 5).mono ?_
  rintro e w5 ⟨A5, c5, V5, rfl, i5, h5, t5⟩
  rw [show goneL (exW ([] ++ [5] ++ [6])) 5 = [] from by decide] at i5 ⊢
  rw [ex_drop] at h5
  have H5 := Lib.hid h5
  have T5 := Lib.hid (T4.out.trans t5)
  clear h5 t5 H4 T4 i5
  go_wp2_with fail
  refine (leave_any H5.out (by decide) (by decide) (by decide) (ex_good (by decide) (by decide)) 6).mono ?_
  rintro e w6 ⟨A6, c6, V6, rfl, i6, h6, t6⟩
  rw [show goneL (exW (without ([] ++ [5] ++ [6]) 5)) 6 = [1] from by decide] at i6 ⊢
  have T6 := Lib.hid (T5.out.trans t6)
  obtain ⟨g, o, hA, _, hc⟩ := i6 0 (by decide)
  subst hA
  have hc0 : w6.cell? ⟨g, o, none⟩ = some (.int .i64 1) := hc
  clear hc i6 h6 t6 H5 T5
  go_wp2_with fail
  go_ret
  exact ⟨rfl, made_below C1.out T6.out HFt.out⟩
end Go.Proofs.Ytiagnkmiibaacaa
