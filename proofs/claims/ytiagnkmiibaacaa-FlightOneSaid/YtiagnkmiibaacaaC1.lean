/- What the calls on a table do: Get, Who, Hear, Move. Conditions: the table lies in memory. -/
import Derived.Test.YtiagnkmiibaacaaSt
namespace Go.Proofs.Ytiagnkmiibaacaa
open Go.RowKit Go.Maps Go.ChangeMaps Go.WideMaps
section
variable {F : Nat → Prop} {p m : Nat} {last : Int} {L : List FT} {N : Nat} {K : KM} {V : Int → Value} {w : World} {n : Int}
abbrev z14 : Fl := ⟨0, ⟨#[]⟩, 0, 0, ⟨#[]⟩, false, ⟨#[]⟩, false, 0, 0, 0, 0, 0, false⟩
def getV : Option FT → Value
  | none => .tuple #[.agg (cF z14), .bool false]
  | some t => .tuple #[.agg (cF t.f), .bool true]
theorem FS.at_ (h : FS F p m last L N K V w) {t : FT} (hf : find L n = some t) : ∃ b, K n = some b ∧ IT w t b (V n) ∧ F b ∧ ∀ k, (V n).ownBlock = some k → F k := by
  obtain ⟨ht, e⟩ := find_some hf
  have := h.it t ht
  rwa [e] at this
set_option maxRecDepth 100000 in
set_option maxHeartbeats 1000000 in
theorem get_any (h : FS F p m last L N K V w) (hw : (Lit.int .i64 n).wf = true) :
    Calls Try.prog 29 #[.pointer (some ⟨p, 0, none⟩), .int .i64 n] w fun e w' => e = .returned (getV (find L n)) ∧ Below w.heap.size w w' := by
  have hb1 := (Below.refl w.heap.size w).alloc (Nat.le_refl _) (.cells (cF z14) 30)
  have h1 := h.far (Ch.of_below hb1 rfl) (fun _ hk => hk.elim)
  have hl := h1.look hw
  have hc := h1.c1
  cases hf : find L n with
  | none =>
    rw [h.no n (find_none hf)] at hl
    simp only [pv, Option.isSome_none] at hl
    have HB := Lib.hid hb1
    clear h h1 hf hb1
    go_enter Try.func29, Try.ntmps29
    go_upto_region 1 with fail
    show Code.wp _ _ _ _ (w.alloc (.cells (cF z14) 30))
    have hz := obj_new w (.cells (cF z14) 30)
    go_wp2
    refine bodyPost_ret (v := .tuple #[.agg (cF z14), .bool false]) (by simp [results, Try.results29, go_sem]) rfl ?_
    exact ⟨rfl, HB.out⟩
  | some t =>
    obtain ⟨b, hk, hi, hF, hV⟩ := h1.at_ hf
    rw [hk] at hl
    simp only [pv, Option.isSome_some] at hl
    obtain ⟨d0, d1, d2, d3, d4, d5, d6, d7, d8, d9, d10, d11, d12, d13⟩ := cells14 hi.blk
    have HB := Lib.hid hb1
    clear h h1 hf hb1 hi hk hF hV
    go_enter Try.func29, Try.ntmps29
    go_upto_region 1 with fail
    show Code.wp _ _ _ _ (w.alloc (.cells (cF z14) 30))
    go_wp2
    refine bodyPost_ret (v := .tuple #[.agg (cF t.f), .bool true]) (by simp [results, Try.results29, go_sem]) rfl ?_
    exact ⟨rfl, (Below.refl _ _).alloc (Nat.le_refl _) _⟩
/-- what Move makes of a flight -/
def moveF (t : FT) (n : Int) : FT := ⟨{ t.f with at_ := t.f.at_ + n }, t.en, t.who⟩
def moveE (o : Option FT) (n : Int) : Int :=
  match o with
  | none => 6
  | some t => if t.f.heard = false then 11 else if n < 0 ∨ n > t.en - t.f.at_ then 1 else 0
def hearF (t : FT) (entry a e : Int) : FT := ⟨{ t.f with heard := true, entry := entry, at_ := a }, e, t.who⟩
def hearE (o : Option FT) (entry a e : Int) : Int :=
  match o with
  | none => 6
  | some t => if t.f.heard = true then 11 else if entry < 1 ∨ a < 0 ∨ e < a ∨ e > 4611686018427387904 then 1 else if t.f.entry ≠ 0 ∧ t.f.entry ≠ entry then 12 else 0
/-- one flight is another one -/
def upd (L : List FT) (n : Int) (g : FT → FT) : List FT := L.map fun t => if t.id = n then g t else t
end
end Go.Proofs.Ytiagnkmiibaacaa
