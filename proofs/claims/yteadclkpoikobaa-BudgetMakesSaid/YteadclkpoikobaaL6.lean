/- How many bytes have to go for any tenant's, and whether they fit, is what the document says, behind any acts: the walk of BudgetOver. Conditions: the arguments lie in memory. -/
import Derived.Test.YteadclkpoikobaaL5
namespace Go.Proofs.Yteadclkpoikobaa
open Go.RowKit Go.Maps Go.ChangeMaps Go.WideMaps

/-- a book, the document's in the box X, the act in the box P, and the acts -/
structure OS (w : World) (b m X : Nat) (all share : Int) (L : List Ln) (n : Nat) (a : Option Addr) (cap : Nat) (P : Nat) (q : Ac) (al : Option Addr) (A : List Ac) (W : World) : Prop where
  book : BookL W b m all share L n
  xo : W.heap[X]? = some (.cells #[.int .i64 all, .int .i64 share, .slice a L.length cap] 32)
  sl : Sl W 71 a L.length 2 (flat L)
  act : W.heap[P]? = some (.cells #[.string q.1, .int .i64 q.2.1, .bool q.2.2] 26)
  ag : Ag W al A.length 3 (flatA A)
  ch : Ch (fun _ => False) w W
section
variable {w : World} {b m X n P : Nat} {all share : Int} {L : List Ln} {a al : Option Addr} {cap : Nat} {A : List Ac} {q : Ac} {W W' : World}
theorem OS.step (h : OS w b m X all share L n a cap P q al A W) (c : Ch (fun _ => False) W W') : OS w b m X all share L n a cap P q al A W' :=
  ⟨h.book.ch c (fun h => h) (fun h => h), c.obj h.xo (fun h => h), h.sl.ch c noF, c.obj h.act (fun h => h), h.ag.ch c, h.ch.trans c (fun _ h _ => h)⟩
theorem OS.x0 (h : OS w b m X all share L n a cap P q al A W) : W.cell? ⟨X, 0, none⟩ = some (.int .i64 all) := cell_of (off := 0) h.xo rfl
theorem OS.x1 (h : OS w b m X all share L n a cap P q al A W) : W.cell? ⟨X, 1, none⟩ = some (.int .i64 share) := cell_of (off := 1) h.xo rfl
theorem OS.x2 (h : OS w b m X all share L n a cap P q al A W) : W.cell? ⟨X, 2, none⟩ = some (.slice a L.length cap) := cell_of (off := 2) h.xo rfl
theorem OS.p0 (h : OS w b m X all share L n a cap P q al A W) : W.cell? ⟨P, 0, none⟩ = some (.string q.1) := cell_of (off := 0) h.act rfl
theorem OS.p1 (h : OS w b m X all share L n a cap P q al A W) : W.cell? ⟨P, 1, none⟩ = some (.int .i64 q.2.1) := cell_of (off := 1) h.act rfl
theorem fits_os (ht : q.1.size ≤ maxLen) (h : OS w b m X all share L n a cap P q al A W) : Calls Try.prog 13 #[.pointer (some ⟨b, 0, none⟩), .string q.1, .int .i64 q.2.1] W fun e W' => e = .returned (.bool (decide (addE all share L q.1 q.2.1 = 0))) ∧ OS w b m X all share L n a cap P q al A W' :=
  (fits_any h.book ht).mono fun _ _ ⟨he, k, hw⟩ => ⟨he, hw ▸ h.step (chN _ _ k)⟩
theorem rfits_os (hlen : L.length < 1000000) (h : OS w b m X all share L n a cap P q al A W) : Calls Try.prog 25 #[refV all share (.slice a L.length cap), .string q.1, .int .i64 q.2.1] W fun e W' => e = .returned (.bool (decide (addE all share L q.1 q.2.1 = 0))) ∧ OS w b m X all share L n a cap P q al A W' :=
  (rfits_any h.sl h.book.inv hlen).mono fun _ _ ⟨he, hc⟩ => ⟨he, h.step hc⟩
theorem same_os {capl : Nat} (hn : n < 1000000) (hlen : L.length < 1000000) (hsh : shortA A = true) (h : OS w b m X all share L n a cap P q al A W) : Calls Try.prog 22 #[.pointer (some ⟨b, 0, none⟩), refV all share (.slice a L.length cap), .slice al A.length capl] W fun e W' => e = .returned (.bool true) ∧ OS w b m X all share L n a cap P q al A W' :=
  (same_any h.book hn h.sl hlen h.ag hsh).mono fun _ _ ⟨he, hc⟩ => ⟨he, h.step hc⟩
end
theorem length_playL60 (all share : Int) (A : List Ac) (hA : A.length ≤ 60) : (playL all share A).length ≤ 60 := by
  have := length_playL_le all share A A.length hA
  rwa [List.take_length] at this

set_option maxRecDepth 100000 in
set_option maxHeartbeats 2000000 in
theorem over_walk {x y : Int} {A : List Ac} {q : Ac} {a : Option Addr} {cap : Nat} {w : World} (h : Ag w a A.length 3 (flatA A)) :
    Calls Try.prog 7 #[.agg #[.int .i64 x, .int .i64 y], .slice a A.length cap, .agg #[.string q.1, .int .i64 q.2.1, .bool q.2.2]] w fun e w' => e = .returned (.bool true) ∧ Ch (fun _ => False) w w' := by
  have HA := Lib.hid h
  clear h
  have HC0 := ((Ch.refl (fun _ => False) w).alloc (.cells #[.int .i64 x, .int .i64 y] 23)).alloc (.cells #[.string q.1, .int .i64 q.2.1, .bool q.2.2] 26)
  by_cases hs : smallA A = true
  · obtain ⟨hsh, hA⟩ := smallA_of hs
    by_cases hq : q.1.size ≤ 300
    · by_cases hg : 0 ≤ y ∧ y ≤ x ∧ x ≤ 1125899906842624
      · obtain ⟨g0, g1, g2⟩ := hg
        have HI := Lib.hid ((Inv.nil g0 g1 g2).play A)
        have HL := Lib.hid (length_playL60 x y A hA)
        have HP := fun W (hc : Ag W a A.length 3 (flatA A)) => Lib.hid (play_yes (cap := cap) hc hA hsh g0 g1 g2)
        go_enter Try.func7, Try.ntmps7
        go_wp2_with fail
        refine (wakes_any _).mono ?_
        rintro e w1 ⟨rfl, c1⟩
        go_wp2_with fail
        refine (small_any ((HA.out.ch HC0).ch c1)).mono ?_
        rintro e w2 ⟨rfl, c2⟩
        have c12 := c1.trans c2 (fun _ h _ => h)
        have HC := Lib.hid (HC0.trans c12 (fun _ h _ => h))
        have o := c12.obj (obj_alloc (o' := .cells #[.string q.1, .int .i64 q.2.1, .bool q.2.2] 26) (obj_new w (.cells #[.int .i64 x, .int .i64 y] 23))) (fun h => h)
        have o2 := c12.obj (obj_new (w.alloc (.cells #[.int .i64 x, .int .i64 y] 23)) (.cells #[.string q.1, .int .i64 q.2.1, .bool q.2.2] 26)) (fun h => h)
        rw [show (w.alloc (.cells #[.int .i64 x, .int .i64 y] 23)).heap.size = w.heap.size + 1 by simp] at o2
        have x0 := cell_of (off := 0) (v := .int .i64 x) o rfl
        have x1 := cell_of (off := 1) (v := .int .i64 y) o rfl
        have p0 := cell_of (off := 0) (v := .string q.1) o2 rfl
        have HO := Lib.hid o
        have HO2 := Lib.hid o2
        clear c1 c2 c12 o o2 HC0
        go_wp2_with fail
        refine (HP _ (HA.out.ch HC.out)).out.mono ?_
        rintro e w3 ⟨b, m, a', cap', rfl, hb, hm, B3, S3, c3⟩
        generalize playL x y A = L at *
        have hO : OS w b m w3.heap.size x y L 60 a' cap' (w.heap.size + 1) q a A (w3.alloc (.cells #[.int .i64 x, .int .i64 y, .slice a' L.length cap'] 32)) :=
          ⟨B3.ch ((Ch.refl (fun _ => False) w3).alloc _) (fun h => h) (fun h => h), obj_new _ _, S3.alloc _, obj_alloc (c3.obj HO2.out (fun h => h)), ((HA.out.ch HC.out).ch c3).ch ((Ch.refl _ w3).alloc _), (HC.out.trans c3 (fun _ h _ => h)).alloc _⟩
        have p0 := hO.p0
        have p1 := hO.p1
        have HO3 := Lib.hid hO
        clear B3 S3 c3 hb hm HO HO2 hO
        go_wp2_with fail
        refine (over_any HO3.out.book (by unfold maxLen; omega)).mono ?_
        rintro e w4 ⟨rfl, k, rfl⟩
        have hO := HO3.out.step (chN _ _ k)
        have x0 := hO.x0
        have x1 := hO.x1
        have x2 := hO.x2
        have p0 := hO.p0
        have p1 := hO.p1
        have HO4 := Lib.hid hO
        clear hO HO3
        go_wp2_with fail
        refine (rover_any HO4.out.sl HI.out).mono ?_
        rintro e w5 ⟨rfl, c5⟩
        have hO := HO4.out.step c5
        clear c5 HO4
        generalize overR x y L q.1 q.2.1 = r at *
        go_wp2_with fail
        have b0 : ∀ s : Kept (OS w b m w3.heap.size x y L 60 a' cap' (w.heap.size + 1) q a A), s.W.cell? ⟨w3.heap.size, 0, none⟩ = some (.int .i64 x) := fun s => s.h.x0
        have b1 : ∀ s : Kept (OS w b m w3.heap.size x y L 60 a' cap' (w.heap.size + 1) q a A), s.W.cell? ⟨w3.heap.size, 1, none⟩ = some (.int .i64 y) := fun s => s.h.x1
        have b2 : ∀ s : Kept (OS w b m w3.heap.size x y L 60 a' cap' (w.heap.size + 1) q a A), s.W.cell? ⟨w3.heap.size, 2, none⟩ = some (.slice a' L.length cap') := fun s => s.h.x2
        have b3 : ∀ s : Kept (OS w b m w3.heap.size x y L 60 a' cap' (w.heap.size + 1) q a A), s.W.cell? ⟨w.heap.size + 1, 0, none⟩ = some (.string q.1) := fun s => s.h.p0
        have b4 : ∀ s : Kept (OS w b m w3.heap.size x y L 60 a' cap' (w.heap.size + 1) q a A), s.W.cell? ⟨w.heap.size + 1, 1, none⟩ = some (.int .i64 q.2.1) := fun s => s.h.p1
        have ne : Nonempty (Kept (OS w b m w3.heap.size x y L 60 a' cap' (w.heap.size + 1) q a A)) := ⟨⟨_, hO⟩⟩
        refine region_in (OS w b m w3.heap.size x y L 60 a' cap' (w.heap.size + 1) q a A) (by kernel_rfl) (by kernel_rfl) (hO.step (Ch.refl _ _).drew) ?_
        repeat (go_big_quiet_step ((first | (go_at_call 13; exact Calls.inK (fits_os (by unfold maxLen; omega) (Kept.h _))) | (go_at_call 25; exact Calls.inK (rfits_os (by have := HL.out; omega) (Kept.h _))) | (go_at_call 22; exact Calls.inK (same_os (by omega) (by have := HL.out; omega) hsh (Kept.h _))))))
        refine wpQuiet_nil ?_
        rintro w1 ⟨⟨w1', h1⟩, hw1⟩
        dsimp only at hw1
        subst hw1
        clear b0 b1 b2 b3 b4 ne
        go_wp2_with fail
        go_ret
        exact ⟨by simp, h1.ch⟩
      · have HP := fun W v => Lib.hid (play_no (v := v) (w := W) hg)
        clear hg
        go_enter Try.func7, Try.ntmps7
        go_wp2_with fail
        refine (wakes_any _).mono ?_
        rintro e w1 ⟨rfl, c1⟩
        go_wp2_with fail
        refine (small_any ((HA.out.ch HC0).ch c1)).mono ?_
        rintro e w2 ⟨rfl, c2⟩
        have c12 := c1.trans c2 (fun _ h _ => h)
        have HC := Lib.hid (HC0.trans c12 (fun _ h _ => h))
        have o := c12.obj (obj_alloc (o' := .cells #[.string q.1, .int .i64 q.2.1, .bool q.2.2] 26) (obj_new w (.cells #[.int .i64 x, .int .i64 y] 23))) (fun h => h)
        have o2 := c12.obj (obj_new (w.alloc (.cells #[.int .i64 x, .int .i64 y] 23)) (.cells #[.string q.1, .int .i64 q.2.1, .bool q.2.2] 26)) (fun h => h)
        rw [show (w.alloc (.cells #[.int .i64 x, .int .i64 y] 23)).heap.size = w.heap.size + 1 by simp] at o2
        have x0 := cell_of (off := 0) (v := .int .i64 x) o rfl
        have x1 := cell_of (off := 1) (v := .int .i64 y) o rfl
        have p0 := cell_of (off := 0) (v := .string q.1) o2 rfl
        clear c1 c2 c12 o o2 HC0
        go_wp2_with fail
        refine (HP _ _).out.mono ?_
        rintro e w3 ⟨u, rfl, ⟨a', cap', rfl⟩, c3⟩
        go_wp2_with fail
        go_ret
        exact ⟨rfl, (HC.out.trans c3 (fun _ h _ => h)).alloc _⟩
    · go_enter Try.func7, Try.ntmps7
      go_wp2_with fail
      refine (wakes_any _).mono ?_
      rintro e w1 ⟨rfl, c1⟩
      go_wp2_with fail
      refine (small_any ((HA.out.ch HC0).ch c1)).mono ?_
      rintro e w2 ⟨rfl, c2⟩
      have c12 := c1.trans c2 (fun _ h _ => h)
      have HC := Lib.hid (HC0.trans c12 (fun _ h _ => h))
      have o2 := c12.obj (obj_new (w.alloc (.cells #[.int .i64 x, .int .i64 y] 23)) (.cells #[.string q.1, .int .i64 q.2.1, .bool q.2.2] 26)) (fun h => h)
      rw [show (w.alloc (.cells #[.int .i64 x, .int .i64 y] 23)).heap.size = w.heap.size + 1 by simp] at o2
      have p0 := cell_of (off := 0) (v := .string q.1) o2 rfl
      clear c1 c2 c12 o2 HC0
      go_wp2_with fail
      go_ret
      exact ⟨rfl, HC.out⟩
  · have hs' : smallA A = false := by simpa using hs
    clear hs
    go_enter Try.func7, Try.ntmps7
    go_wp2_with fail
    refine (wakes_any _).mono ?_
    rintro e w1 ⟨rfl, c1⟩
    go_wp2_with fail
    refine (small_any ((HA.out.ch HC0).ch c1)).mono ?_
    rintro e w2 ⟨rfl, c2⟩
    go_wp2_with fail
    go_ret
    exact ⟨rfl, (HC0.trans c1 (fun _ h _ => h)).trans c2 (fun _ h _ => h)⟩
end Go.Proofs.Yteadclkpoikobaa
