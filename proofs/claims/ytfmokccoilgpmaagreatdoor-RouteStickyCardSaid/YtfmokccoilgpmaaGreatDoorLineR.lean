/- Request lines: ParseRequest of the package and of the reference. -/
import Derived.Test.YtfmokccoilgpmaaGreatDoorLineM
import Derived.Test.YtfmokccoilgpmaaGreatDoorSplit
namespace Go.Proofs.YtfmokccoilgpmaaGreatDoor
open Go.RowKit Go.Own
set_option linter.unusedVariables false
set_option maxHeartbeats 2000000

/-- a request of a line -/
def reqV (q : Option (ByteArray × ByteArray × Int)) : Value := match q with
  | some (m, t, n) => .agg #[.string m, .string t, .int .i64 n, .slice none 0 0, .bool false, .slice none 0 0]
  | none => .agg #[.string .empty, .string .empty, .int .i64 0, .slice none 0 0, .bool false, .slice none 0 0]

theorem row_new {w w1 : World} {o : Obj} (hb : Below (w.alloc o).heap.size (w.alloc o) w1) : w1.heap[w.heap.size]? = some o :=
  (hb.block _ (by simp)).trans (heap_alloc_new w o)
theorem row_below {w w1 : World} {g : Nat} {o : Obj} (h : w.heap[g]? = some o) (hb : Below w.heap.size w w1) : w1.heap[g]? = some o :=
  (hb.block _ (Array.getElem?_eq_some_iff.1 h).1).trans h
theorem row6 {w : World} {g : Nat} {x0 x1 x2 x3 x4 x5 : Value} {T : TypeId} (h : w.heap[g]? = some (.cells #[x0, x1, x2, x3, x4, x5] T)) :
    (w.cell? ⟨g, 0, none⟩ = some x0 ∧ w.cell? ⟨g, 1, none⟩ = some x1 ∧ w.cell? ⟨g, 2, none⟩ = some x2 ∧ w.cell? ⟨g, 3, none⟩ = some x3 ∧ w.cell? ⟨g, 4, none⟩ = some x4 ∧ w.cell? ⟨g, 5, none⟩ = some x5) ∧
    (w.frozen? ⟨g, 0, none⟩ = false ∧ w.frozen? ⟨g, 1, none⟩ = false ∧ w.frozen? ⟨g, 2, none⟩ = false ∧ w.frozen? ⟨g, 3, none⟩ = false ∧ w.frozen? ⟨g, 4, none⟩ = false ∧ w.frozen? ⟨g, 5, none⟩ = false) ∧ g < w.heap.size :=
  ⟨⟨cell_of_row w g 0 _ _ _ h, cell_of_row w g 1 _ _ _ h, cell_of_row w g 2 _ _ _ h, cell_of_row w g 3 _ _ _ h, cell_of_row w g 4 _ _ _ h, cell_of_row w g 5 _ _ _ h⟩,
   ⟨frozen_of_row w g 0 _ _ h, frozen_of_row w g 1 _ _ h, frozen_of_row w g 2 _ _ h, frozen_of_row w g 3 _ _ h, frozen_of_row w g 4 _ _ h, frozen_of_row w g 5 _ _ h⟩, (Array.getElem?_eq_some_iff.1 h).1⟩
theorem row5 {w : World} {g : Nat} {x0 x1 x2 x3 x4 : Value} {T : TypeId} (h : w.heap[g]? = some (.cells #[x0, x1, x2, x3, x4] T)) :
    (w.cell? ⟨g, 0, none⟩ = some x0 ∧ w.cell? ⟨g, 1, none⟩ = some x1 ∧ w.cell? ⟨g, 2, none⟩ = some x2 ∧ w.cell? ⟨g, 3, none⟩ = some x3 ∧ w.cell? ⟨g, 4, none⟩ = some x4) ∧
    (w.frozen? ⟨g, 0, none⟩ = false ∧ w.frozen? ⟨g, 1, none⟩ = false ∧ w.frozen? ⟨g, 2, none⟩ = false ∧ w.frozen? ⟨g, 3, none⟩ = false ∧ w.frozen? ⟨g, 4, none⟩ = false) ∧ g < w.heap.size :=
  ⟨⟨cell_of_row w g 0 _ _ _ h, cell_of_row w g 1 _ _ _ h, cell_of_row w g 2 _ _ _ h, cell_of_row w g 3 _ _ _ h, cell_of_row w g 4 _ _ _ h⟩,
   ⟨frozen_of_row w g 0 _ _ h, frozen_of_row w g 1 _ _ h, frozen_of_row w g 2 _ _ h, frozen_of_row w g 3 _ _ h, frozen_of_row w g 4 _ _ h⟩, (Array.getElem?_eq_some_iff.1 h).1⟩
/-- a struct of 6 cells is stored into the result's block, and the call returns -/
theorem fin6 {P : Program} {fn : Func} {R : Ending → World → Prop} {a : Act} {w w1 : World} {g B : Nat} {x0 x1 x2 x3 x4 x5 y0 y1 y2 y3 y4 y5 : Value} {T : TypeId} (mk : Value → Value) (h : w1.heap[g]? = some (.cells #[x0, x1, x2, x3, x4, x5] T)) (hB : Below B w w1) (hg : B ≤ g)
    (hres : ∀ w2 : World, w2.cell? ⟨g, 0, none⟩ = some y0 → w2.cell? ⟨g, 1, none⟩ = some y1 → w2.cell? ⟨g, 2, none⟩ = some y2 → w2.cell? ⟨g, 3, none⟩ = some y3 → w2.cell? ⟨g, 4, none⟩ = some y4 → w2.cell? ⟨g, 5, none⟩ = some y5 → (results fn a.tmps).run P w2 = .ok (mk (.agg #[y0, y1, y2, y3, y4, y5])) w2) (hd : a.defers = []) (hR : ∀ w2, Below B w w2 → R (.returned (mk (.agg #[y0, y1, y2, y3, y4, y5]))) w2) :
    bodyPost P fn R .ret a ((((((w1.setCell ⟨g, 0, none⟩ y0).setCell ⟨g, 1, none⟩ y1).setCell ⟨g, 2, none⟩ y2).setCell ⟨g, 3, none⟩ y3).setCell ⟨g, 4, none⟩ y4).setCell ⟨g, 5, none⟩ y5) := by
  have h0 := h
  have h1 : ((w1).setCell ⟨g, 0, none⟩ y0).heap[g]? = some (.cells #[y0, x1, x2, x3, x4, x5] T) := (heap_setCell_same (w1) g 0 _ _ _ h0).trans (by simp)
  have h2 : (((w1).setCell ⟨g, 0, none⟩ y0).setCell ⟨g, 1, none⟩ y1).heap[g]? = some (.cells #[y0, y1, x2, x3, x4, x5] T) := (heap_setCell_same ((w1).setCell ⟨g, 0, none⟩ y0) g 1 _ _ _ h1).trans (by simp)
  have h3 : ((((w1).setCell ⟨g, 0, none⟩ y0).setCell ⟨g, 1, none⟩ y1).setCell ⟨g, 2, none⟩ y2).heap[g]? = some (.cells #[y0, y1, y2, x3, x4, x5] T) := (heap_setCell_same (((w1).setCell ⟨g, 0, none⟩ y0).setCell ⟨g, 1, none⟩ y1) g 2 _ _ _ h2).trans (by simp)
  have h4 : (((((w1).setCell ⟨g, 0, none⟩ y0).setCell ⟨g, 1, none⟩ y1).setCell ⟨g, 2, none⟩ y2).setCell ⟨g, 3, none⟩ y3).heap[g]? = some (.cells #[y0, y1, y2, y3, x4, x5] T) := (heap_setCell_same ((((w1).setCell ⟨g, 0, none⟩ y0).setCell ⟨g, 1, none⟩ y1).setCell ⟨g, 2, none⟩ y2) g 3 _ _ _ h3).trans (by simp)
  have h5 : ((((((w1).setCell ⟨g, 0, none⟩ y0).setCell ⟨g, 1, none⟩ y1).setCell ⟨g, 2, none⟩ y2).setCell ⟨g, 3, none⟩ y3).setCell ⟨g, 4, none⟩ y4).heap[g]? = some (.cells #[y0, y1, y2, y3, y4, x5] T) := (heap_setCell_same (((((w1).setCell ⟨g, 0, none⟩ y0).setCell ⟨g, 1, none⟩ y1).setCell ⟨g, 2, none⟩ y2).setCell ⟨g, 3, none⟩ y3) g 4 _ _ _ h4).trans (by simp)
  have h6 : (((((((w1).setCell ⟨g, 0, none⟩ y0).setCell ⟨g, 1, none⟩ y1).setCell ⟨g, 2, none⟩ y2).setCell ⟨g, 3, none⟩ y3).setCell ⟨g, 4, none⟩ y4).setCell ⟨g, 5, none⟩ y5).heap[g]? = some (.cells #[y0, y1, y2, y3, y4, y5] T) := (heap_setCell_same ((((((w1).setCell ⟨g, 0, none⟩ y0).setCell ⟨g, 1, none⟩ y1).setCell ⟨g, 2, none⟩ y2).setCell ⟨g, 3, none⟩ y3).setCell ⟨g, 4, none⟩ y4) g 5 _ _ _ h5).trans (by simp)
  have hb : Below B w (((((((w1.setCell ⟨g, 0, none⟩ y0).setCell ⟨g, 1, none⟩ y1).setCell ⟨g, 2, none⟩ y2).setCell ⟨g, 3, none⟩ y3).setCell ⟨g, 4, none⟩ y4).setCell ⟨g, 5, none⟩ y5)) :=
    ((((((hB.setCell hg _).setCell hg _).setCell hg _).setCell hg _).setCell hg _).setCell hg _)
  have hh : (((((((w1.setCell ⟨g, 0, none⟩ y0).setCell ⟨g, 1, none⟩ y1).setCell ⟨g, 2, none⟩ y2).setCell ⟨g, 3, none⟩ y3).setCell ⟨g, 4, none⟩ y4).setCell ⟨g, 5, none⟩ y5)).heap[g]? = some (.cells #[y0, y1, y2, y3, y4, y5] T) := h6
  generalize ((((((w1.setCell ⟨g, 0, none⟩ y0).setCell ⟨g, 1, none⟩ y1).setCell ⟨g, 2, none⟩ y2).setCell ⟨g, 3, none⟩ y3).setCell ⟨g, 4, none⟩ y4).setCell ⟨g, 5, none⟩ y5) = w2 at hh hb ⊢
  obtain ⟨⟨c0, c1, c2, c3, c4, c5⟩, -, -⟩ := row6 hh
  exact bodyPost_ret (hres w2 c0 c1 c2 c3 c4 c5) hd (hR w2 hb)
/-- a struct of 5 cells is stored into the result's block, and the call returns -/
theorem fin5 {P : Program} {fn : Func} {R : Ending → World → Prop} {a : Act} {w w1 : World} {g B : Nat} {x0 x1 x2 x3 x4 y0 y1 y2 y3 y4 : Value} {T : TypeId} (mk : Value → Value) (h : w1.heap[g]? = some (.cells #[x0, x1, x2, x3, x4] T)) (hB : Below B w w1) (hg : B ≤ g)
    (hres : ∀ w2 : World, w2.cell? ⟨g, 0, none⟩ = some y0 → w2.cell? ⟨g, 1, none⟩ = some y1 → w2.cell? ⟨g, 2, none⟩ = some y2 → w2.cell? ⟨g, 3, none⟩ = some y3 → w2.cell? ⟨g, 4, none⟩ = some y4 → (results fn a.tmps).run P w2 = .ok (mk (.agg #[y0, y1, y2, y3, y4])) w2) (hd : a.defers = []) (hR : ∀ w2, Below B w w2 → R (.returned (mk (.agg #[y0, y1, y2, y3, y4]))) w2) :
    bodyPost P fn R .ret a (((((w1.setCell ⟨g, 0, none⟩ y0).setCell ⟨g, 1, none⟩ y1).setCell ⟨g, 2, none⟩ y2).setCell ⟨g, 3, none⟩ y3).setCell ⟨g, 4, none⟩ y4) := by
  have h0 := h
  have h1 : ((w1).setCell ⟨g, 0, none⟩ y0).heap[g]? = some (.cells #[y0, x1, x2, x3, x4] T) := (heap_setCell_same (w1) g 0 _ _ _ h0).trans (by simp)
  have h2 : (((w1).setCell ⟨g, 0, none⟩ y0).setCell ⟨g, 1, none⟩ y1).heap[g]? = some (.cells #[y0, y1, x2, x3, x4] T) := (heap_setCell_same ((w1).setCell ⟨g, 0, none⟩ y0) g 1 _ _ _ h1).trans (by simp)
  have h3 : ((((w1).setCell ⟨g, 0, none⟩ y0).setCell ⟨g, 1, none⟩ y1).setCell ⟨g, 2, none⟩ y2).heap[g]? = some (.cells #[y0, y1, y2, x3, x4] T) := (heap_setCell_same (((w1).setCell ⟨g, 0, none⟩ y0).setCell ⟨g, 1, none⟩ y1) g 2 _ _ _ h2).trans (by simp)
  have h4 : (((((w1).setCell ⟨g, 0, none⟩ y0).setCell ⟨g, 1, none⟩ y1).setCell ⟨g, 2, none⟩ y2).setCell ⟨g, 3, none⟩ y3).heap[g]? = some (.cells #[y0, y1, y2, y3, x4] T) := (heap_setCell_same ((((w1).setCell ⟨g, 0, none⟩ y0).setCell ⟨g, 1, none⟩ y1).setCell ⟨g, 2, none⟩ y2) g 3 _ _ _ h3).trans (by simp)
  have h5 : ((((((w1).setCell ⟨g, 0, none⟩ y0).setCell ⟨g, 1, none⟩ y1).setCell ⟨g, 2, none⟩ y2).setCell ⟨g, 3, none⟩ y3).setCell ⟨g, 4, none⟩ y4).heap[g]? = some (.cells #[y0, y1, y2, y3, y4] T) := (heap_setCell_same (((((w1).setCell ⟨g, 0, none⟩ y0).setCell ⟨g, 1, none⟩ y1).setCell ⟨g, 2, none⟩ y2).setCell ⟨g, 3, none⟩ y3) g 4 _ _ _ h4).trans (by simp)
  have hb : Below B w ((((((w1.setCell ⟨g, 0, none⟩ y0).setCell ⟨g, 1, none⟩ y1).setCell ⟨g, 2, none⟩ y2).setCell ⟨g, 3, none⟩ y3).setCell ⟨g, 4, none⟩ y4)) :=
    (((((hB.setCell hg _).setCell hg _).setCell hg _).setCell hg _).setCell hg _)
  have hh : ((((((w1.setCell ⟨g, 0, none⟩ y0).setCell ⟨g, 1, none⟩ y1).setCell ⟨g, 2, none⟩ y2).setCell ⟨g, 3, none⟩ y3).setCell ⟨g, 4, none⟩ y4)).heap[g]? = some (.cells #[y0, y1, y2, y3, y4] T) := h5
  generalize (((((w1.setCell ⟨g, 0, none⟩ y0).setCell ⟨g, 1, none⟩ y1).setCell ⟨g, 2, none⟩ y2).setCell ⟨g, 3, none⟩ y3).setCell ⟨g, 4, none⟩ y4) = w2 at hh hb ⊢
  obtain ⟨⟨c0, c1, c2, c3, c4⟩, -, -⟩ := row5 hh
  exact bodyPost_ret (hres w2 c0 c1 c2 c3 c4) hd (hR w2 hb)
/-- 6 cells of a block stored: the block, and what stays -/
theorem set6 {w w1 : World} {g B : Nat} {x0 x1 x2 x3 x4 x5 : Value} {T : TypeId} (y0 y1 y2 y3 y4 y5 : Value) (h : w1.heap[g]? = some (.cells #[x0, x1, x2, x3, x4, x5] T)) (hB : Below B w w1) (hg : B ≤ g) :
    (((((((w1.setCell ⟨g, 0, none⟩ y0).setCell ⟨g, 1, none⟩ y1).setCell ⟨g, 2, none⟩ y2).setCell ⟨g, 3, none⟩ y3).setCell ⟨g, 4, none⟩ y4).setCell ⟨g, 5, none⟩ y5)).heap[g]? = some (.cells #[y0, y1, y2, y3, y4, y5] T) ∧ Below B w ((((((w1.setCell ⟨g, 0, none⟩ y0).setCell ⟨g, 1, none⟩ y1).setCell ⟨g, 2, none⟩ y2).setCell ⟨g, 3, none⟩ y3).setCell ⟨g, 4, none⟩ y4).setCell ⟨g, 5, none⟩ y5) := by
  have h1 : (w1.setCell ⟨g, 0, none⟩ y0).heap[g]? = some (.cells #[y0, x1, x2, x3, x4, x5] T) := (heap_setCell_same w1 g 0 _ _ _ h).trans (by simp)
  have h2 : ((w1.setCell ⟨g, 0, none⟩ y0).setCell ⟨g, 1, none⟩ y1).heap[g]? = some (.cells #[y0, y1, x2, x3, x4, x5] T) := (heap_setCell_same (w1.setCell ⟨g, 0, none⟩ y0) g 1 _ _ _ h1).trans (by simp)
  have h3 : (((w1.setCell ⟨g, 0, none⟩ y0).setCell ⟨g, 1, none⟩ y1).setCell ⟨g, 2, none⟩ y2).heap[g]? = some (.cells #[y0, y1, y2, x3, x4, x5] T) := (heap_setCell_same ((w1.setCell ⟨g, 0, none⟩ y0).setCell ⟨g, 1, none⟩ y1) g 2 _ _ _ h2).trans (by simp)
  have h4 : ((((w1.setCell ⟨g, 0, none⟩ y0).setCell ⟨g, 1, none⟩ y1).setCell ⟨g, 2, none⟩ y2).setCell ⟨g, 3, none⟩ y3).heap[g]? = some (.cells #[y0, y1, y2, y3, x4, x5] T) := (heap_setCell_same (((w1.setCell ⟨g, 0, none⟩ y0).setCell ⟨g, 1, none⟩ y1).setCell ⟨g, 2, none⟩ y2) g 3 _ _ _ h3).trans (by simp)
  have h5 : (((((w1.setCell ⟨g, 0, none⟩ y0).setCell ⟨g, 1, none⟩ y1).setCell ⟨g, 2, none⟩ y2).setCell ⟨g, 3, none⟩ y3).setCell ⟨g, 4, none⟩ y4).heap[g]? = some (.cells #[y0, y1, y2, y3, y4, x5] T) := (heap_setCell_same ((((w1.setCell ⟨g, 0, none⟩ y0).setCell ⟨g, 1, none⟩ y1).setCell ⟨g, 2, none⟩ y2).setCell ⟨g, 3, none⟩ y3) g 4 _ _ _ h4).trans (by simp)
  have h6 : ((((((w1.setCell ⟨g, 0, none⟩ y0).setCell ⟨g, 1, none⟩ y1).setCell ⟨g, 2, none⟩ y2).setCell ⟨g, 3, none⟩ y3).setCell ⟨g, 4, none⟩ y4).setCell ⟨g, 5, none⟩ y5).heap[g]? = some (.cells #[y0, y1, y2, y3, y4, y5] T) := (heap_setCell_same (((((w1.setCell ⟨g, 0, none⟩ y0).setCell ⟨g, 1, none⟩ y1).setCell ⟨g, 2, none⟩ y2).setCell ⟨g, 3, none⟩ y3).setCell ⟨g, 4, none⟩ y4) g 5 _ _ _ h5).trans (by simp)
  exact ⟨h6, ((((((hB.setCell hg _).setCell hg _).setCell hg _).setCell hg _).setCell hg _).setCell hg _)⟩
/-- 5 cells of a block stored: the block, and what stays -/
theorem set5 {w w1 : World} {g B : Nat} {x0 x1 x2 x3 x4 : Value} {T : TypeId} (y0 y1 y2 y3 y4 : Value) (h : w1.heap[g]? = some (.cells #[x0, x1, x2, x3, x4] T)) (hB : Below B w w1) (hg : B ≤ g) :
    ((((((w1.setCell ⟨g, 0, none⟩ y0).setCell ⟨g, 1, none⟩ y1).setCell ⟨g, 2, none⟩ y2).setCell ⟨g, 3, none⟩ y3).setCell ⟨g, 4, none⟩ y4)).heap[g]? = some (.cells #[y0, y1, y2, y3, y4] T) ∧ Below B w (((((w1.setCell ⟨g, 0, none⟩ y0).setCell ⟨g, 1, none⟩ y1).setCell ⟨g, 2, none⟩ y2).setCell ⟨g, 3, none⟩ y3).setCell ⟨g, 4, none⟩ y4) := by
  have h1 : (w1.setCell ⟨g, 0, none⟩ y0).heap[g]? = some (.cells #[y0, x1, x2, x3, x4] T) := (heap_setCell_same w1 g 0 _ _ _ h).trans (by simp)
  have h2 : ((w1.setCell ⟨g, 0, none⟩ y0).setCell ⟨g, 1, none⟩ y1).heap[g]? = some (.cells #[y0, y1, x2, x3, x4] T) := (heap_setCell_same (w1.setCell ⟨g, 0, none⟩ y0) g 1 _ _ _ h1).trans (by simp)
  have h3 : (((w1.setCell ⟨g, 0, none⟩ y0).setCell ⟨g, 1, none⟩ y1).setCell ⟨g, 2, none⟩ y2).heap[g]? = some (.cells #[y0, y1, y2, x3, x4] T) := (heap_setCell_same ((w1.setCell ⟨g, 0, none⟩ y0).setCell ⟨g, 1, none⟩ y1) g 2 _ _ _ h2).trans (by simp)
  have h4 : ((((w1.setCell ⟨g, 0, none⟩ y0).setCell ⟨g, 1, none⟩ y1).setCell ⟨g, 2, none⟩ y2).setCell ⟨g, 3, none⟩ y3).heap[g]? = some (.cells #[y0, y1, y2, y3, x4] T) := (heap_setCell_same (((w1.setCell ⟨g, 0, none⟩ y0).setCell ⟨g, 1, none⟩ y1).setCell ⟨g, 2, none⟩ y2) g 3 _ _ _ h3).trans (by simp)
  have h5 : (((((w1.setCell ⟨g, 0, none⟩ y0).setCell ⟨g, 1, none⟩ y1).setCell ⟨g, 2, none⟩ y2).setCell ⟨g, 3, none⟩ y3).setCell ⟨g, 4, none⟩ y4).heap[g]? = some (.cells #[y0, y1, y2, y3, y4] T) := (heap_setCell_same ((((w1.setCell ⟨g, 0, none⟩ y0).setCell ⟨g, 1, none⟩ y1).setCell ⟨g, 2, none⟩ y2).setCell ⟨g, 3, none⟩ y3) g 4 _ _ _ h4).trans (by simp)
  exact ⟨h5, (((((hB.setCell hg _).setCell hg _).setCell hg _).setCell hg _).setCell hg _)⟩
/-- three strings that the call owns -/
theorem own3 {B : Nat} {w : World} {v : Value} {x y z : ByteArray} (h : OwnS B w v [x, y, z]) :
    ∃ g cap, v = .slice (some ⟨g, 0, none⟩) 3 cap ∧ B ≤ g ∧ g < w.heap.size ∧ 3 ≤ cap ∧ cap ≤ maxLen ∧ w.cell? ⟨g, 0, none⟩ = some (.string x) ∧ w.cell? ⟨g, 1, none⟩ = some (.string y) ∧ w.cell? ⟨g, 2, none⟩ = some (.string z) := by
  have h' := h
  rcases h.2 with ⟨rfl, h0⟩ | ⟨g, cap, cur, rfl, hb, hg, hn, hm, hs, ht⟩
  · exact absurd h0 (by simp)
  · refine ⟨g, cap, rfl, hb, (Array.getElem?_eq_some_iff.1 hg).1, hn, hm, ?_, ?_, ?_⟩
    · exact h'.cellAt 0 (by simp)
    · exact h'.cellAt 1 (by simp)
    · exact h'.cellAt 2 (by simp)
theorem list3 {α : Type} {l : List α} (h : l.length = 3) : ∃ x y z, l = [x, y, z] := by
  match l, h with
  | [x, y, z], _ => exact ⟨x, y, z, rfl⟩

end Go.Proofs.YtfmokccoilgpmaaGreatDoor