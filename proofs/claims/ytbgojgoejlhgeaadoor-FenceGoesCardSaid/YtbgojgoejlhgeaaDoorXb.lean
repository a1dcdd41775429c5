/- Two states, each in a block of its own. Conditions: none. -/
import Derived.Test.YtbgojgoejlhgeaaDoorPre
namespace Go.Proofs.YtbgojgoejlhgeaaDoor.Pr
open Go.RowKit Go.Proofs.YtbgojgoejlhgeaaDoorW.PrintWords
/-- the document's state in the block g, the program's in the block g2 -/
structure XB (w0 : World) (g g2 : Nat) (s : St) (x : Sx) (o : St) (y : Sx) (W : World) : Prop where
  bel : Below w0.heap.size w0 W
  sblk : W.heap[g]? = some (.cells (cellsS s x) 24 (0, 0))
  oblk : W.heap[g2]? = some (.cells (cellsS o y) 31 (0, 0))
  ms : MS W o y
theorem XB.call {w0 W W' : World} {g g2 : Nat} {s o : St} {x y : Sx} (h : XB w0 g g2 s x o y W) (hb : Below W.heap.size W W') : XB w0 g g2 s x o y W' :=
  ⟨h.bel.trans (hb.mono h.bel.size), blk_of h.sblk hb, blk_of h.oblk hb, h.ms.below hb⟩
theorem cells8o {w : World} {g : Nat} {s : St} {x : Sx} (h : w.heap[g]? = some (.cells (cellsS s x) 31 (0, 0))) :
    w.cell? ⟨g, 0, none⟩ = some (.bool s.head) ∧ w.cell? ⟨g, 1, none⟩ = some (.slice x.A1 s.R.length x.c1) ∧ w.cell? ⟨g, 2, none⟩ = some (.slice x.A2 s.H.length x.c2) ∧ w.cell? ⟨g, 3, none⟩ = some (.slice x.A3 s.F.length x.c3) ∧ w.cell? ⟨g, 4, none⟩ = some (.bool s.turned) ∧ w.cell? ⟨g, 5, none⟩ = some (.bool s.failed) ∧ w.cell? ⟨g, 6, none⟩ = some (.int .i64 s.again) ∧ w.cell? ⟨g, 7, none⟩ = some (.bool s.joins) :=
  ⟨cellO h rfl, cellO h rfl, cellO h rfl, cellO h rfl, cellO h rfl, cellO h rfl, cellO h rfl, cellO h rfl⟩
end Go.Proofs.YtbgojgoejlhgeaaDoor.Pr
