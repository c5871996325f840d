/- Request lines: ParseRequest of the package and of the reference. -/
import Derived.Test.YtglljdhhgmgbgaaDoorLineM
import Derived.Test.YtglljdhhgmgbgaaDoorSplit
namespace Go.Proofs.YtglljdhhgmgbgaaDoor
open Go.RowKit Go.Own
set_option linter.unusedVariables false
set_option maxHeartbeats 2000000

/-- a request of a line -/
def reqV (q : Option (ByteArray × ByteArray × Int)) : Value := match q with
  | some (m, t, n) => .agg #[.string m, .string t, .int .i64 n, .slice none 0 0, .bool false, .slice none 0 0]
  | none => .agg #[.string .empty, .string .empty, .int .i64 0, .slice none 0 0, .bool false, .slice none 0 0]

theorem row_new {w w1 : World} {o : Obj} (hb : Below (w.alloc o).heap.size (w.alloc o) w1) : w1.heap[w.heap.size]? = some o :=
  (hb.block _ (by simp)).trans (heap_alloc_new w o)
theorem row_below {w w1 : World} {g : Nat} {o : Obj} (h : w.heap[g]? = some o) (hb : Below w.heap.size w w1) : w1.heap[g]? = some o :=
  (hb.block _ (Array.getElem?_eq_some_iff.1 h).1).trans h
theorem row6 {w : World} {g : Nat} {x0 x1 x2 x3 x4 x5 : Value} {T : TypeId} (h : w.heap[g]? = some (.cells #[x0, x1, x2, x3, x4, x5] T)) :
    (w.cell? ⟨g, 0, none⟩ = some x0 ∧ w.cell? ⟨g, 1, none⟩ = some x1 ∧ w.cell? ⟨g, 2, none⟩ = some x2 ∧ w.cell? ⟨g, 3, none⟩ = some x3 ∧ w.cell? ⟨g, 4, none⟩ = some x4 ∧ w.cell? ⟨g, 5, none⟩ = some x5) ∧
    (w.frozen? ⟨g, 0, none⟩ = false ∧ w.frozen? ⟨g, 1, none⟩ = false ∧ w.frozen? ⟨g, 2, none⟩ = false ∧ w.frozen? ⟨g, 3, none⟩ = false ∧ w.frozen? ⟨g, 4, none⟩ = false ∧ w.frozen? ⟨g, 5, none⟩ = false) ∧ g < w.heap.size :=
  ⟨⟨cell_of_row w g 0 _ _ _ h, cell_of_row w g 1 _ _ _ h, cell_of_row w g 2 _ _ _ h, cell_of_row w g 3 _ _ _ h, cell_of_row w g 4 _ _ _ h, cell_of_row w g 5 _ _ _ h⟩,
   ⟨frozen_of_row w g 0 _ _ h, frozen_of_row w g 1 _ _ h, frozen_of_row w g 2 _ _ h, frozen_of_row w g 3 _ _ h, frozen_of_row w g 4 _ _ h, frozen_of_row w g 5 _ _ h⟩, (Array.getElem?_eq_some_iff.1 h).1⟩
theorem row5 {w : World} {g : Nat} {x0 x1 x2 x3 x4 : Value} {T : TypeId} (h : w.heap[g]? = some (.cells #[x0, x1, x2, x3, x4] T)) :
    (w.cell? ⟨g, 0, none⟩ = some x0 ∧ w.cell? ⟨g, 1, none⟩ = some x1 ∧ w.cell? ⟨g, 2, none⟩ = some x2 ∧ w.cell? ⟨g, 3, none⟩ = some x3 ∧ w.cell? ⟨g, 4, none⟩ = some x4) ∧
    (w.frozen? ⟨g, 0, none⟩ = false ∧ w.frozen? ⟨g, 1, none⟩ = false ∧ w.frozen? ⟨g, 2, none⟩ = false ∧ w.frozen? ⟨g, 3, none⟩ = false ∧ w.frozen? ⟨g, 4, none⟩ = false) ∧ g < w.heap.size :=
  ⟨⟨cell_of_row w g 0 _ _ _ h, cell_of_row w g 1 _ _ _ h, cell_of_row w g 2 _ _ _ h, cell_of_row w g 3 _ _ _ h, cell_of_row w g 4 _ _ _ h⟩,
   ⟨frozen_of_row w g 0 _ _ h, frozen_of_row w g 1 _ _ h, frozen_of_row w g 2 _ _ h, frozen_of_row w g 3 _ _ h, frozen_of_row w g 4 _ _ h⟩, (Array.getElem?_eq_some_iff.1 h).1⟩
/-- a struct of 6 cells is stored into the result's block, and the call returns -/
theorem fin6 {P : Program} {fn : Func} {R : Ending → World → Prop} {a : Act} {w w1 : World} {g B : Nat} {x0 x1 x2 x3 x4 x5 y0 y1 y2 y3 y4 y5 : Value} {T : TypeId} (mk : Value → Value) (h : w1.heap[g]? = some (.cells #[x0, x1, x2, x3, x4, x5] T)) (hB : Below B w w1) (hg : B ≤ g)
    (hres : ∀ w2 : World, w2.cell? ⟨g, 0, none⟩ = some y0 → w2.cell? ⟨g, 1, none⟩ = some y1 → w2.cell? ⟨g, 2, none⟩ = some y2 → w2.cell? ⟨g, 3, none⟩ = some y3 → w2.cell? ⟨g, 4, none⟩ = some y4 → w2.cell? ⟨g, 5, none⟩ = some y5 → (results fn a.tmps).run P w2 = .ok (mk (.agg #[y0, y1, y2, y3, y4, y5])) w2) (hd : a.defers = []) (hR : ∀ w2, Below B w w2 → R (.returned (mk (.agg #[y0, y1, y2, y3, y4, y5]))) w2) :
    bodyPost P fn R .ret a ((((((w1.setCell ⟨g, 0, none⟩ y0).setCell ⟨g, 1, none⟩ y1).setCell ⟨g, 2, none⟩ y2).setCell ⟨g, 3, none⟩ y3).setCell ⟨g, 4, none⟩ y4).setCell ⟨g, 5, none⟩ y5) := by
  have h0 := h
  have h1 : ((w1).setCell ⟨g, 0, none⟩ y0).heap[g]? = some (.cells #[y0, x1, x2, x3, x4, x5] T) := (heap_setCell_same (w1) g 0 _ _ _ h0).trans (by simp)
  have h2 : (((w1).setCell ⟨g, 0, none⟩ y0).setCell ⟨g, 1, none⟩ y1).heap[g]? = some (.cells #[y0, y1, x2, x3, x4, x5] T) := (heap_setCell_same ((w1).setCell ⟨g, 0, none⟩ y0) g 1 _ _ _ h1).trans (by simp)
  have h3 : ((((w1).setCell ⟨g, 0, none⟩ y0).setCell ⟨g, 1, none⟩ y1).setCell ⟨g, 2, none⟩ y2).heap[g]? = some (.cells #[y0, y1, y2, x3, x4, x5] T) := (heap_setCell_same (((w1).setCell ⟨g, 0, none⟩ y0).setCell ⟨g, 1, none⟩ y1) g 2 _ _ _ h2).trans (by simp)
  have h4 : (((((w1).setCell ⟨g, 0, none⟩ y0).setCell ⟨g, 1, none⟩ y1).setCell ⟨g, 2, none⟩ y2).setCell ⟨g, 3, none⟩ y3).heap[g]? = some (.cells #[y0, y1, y2, y3, x4, x5] T) := (heap_setCell_same ((((w1).setCell ⟨g, 0, none⟩ y0).setCell ⟨g, 1, none⟩ y1).setCell ⟨g, 2, none⟩ y2) g 3 _ _ _ h3).trans (by simp)
  have h5 : ((((((w1).setCell ⟨g, 0, none⟩ y0).setCell ⟨g, 1, none⟩ y1).setCell ⟨g, 2, none⟩ y2).setCell ⟨g, 3, none⟩ y3).setCell ⟨g, 4, none⟩ y4).heap[g]? = some (.cells #[y0, y1, y2, y3, y4, x5] T) := (heap_setCell_same (((((w1).setCell ⟨g, 0, none⟩ y0).setCell ⟨g, 1, none⟩ y1).setCell ⟨g, 2, none⟩ y2).setCell ⟨g, 3, none⟩ y3) g 4 _ _ _ h4).trans (by simp)
  have h6 : (((((((w1).setCell ⟨g, 0, none⟩ y0).setCell ⟨g, 1, none⟩ y1).setCell ⟨g, 2, none⟩ y2).setCell ⟨g, 3, none⟩ y3).setCell ⟨g, 4, none⟩ y4).setCell ⟨g, 5, none⟩ y5).heap[g]? = some (.cells #[y0, y1, y2, y3, y4, y5] T) := (heap_setCell_same ((((((w1).setCell ⟨g, 0, none⟩ y0).setCell ⟨g, 1, none⟩ y1).setCell ⟨g, 2, none⟩ y2).setCell ⟨g, 3, none⟩ y3).setCell ⟨g, 4, none⟩ y4) g 5 _ _ _ h5).trans (by simp)
  have hb : Below B w (((((((w1.setCell ⟨g, 0, none⟩ y0).setCell ⟨g, 1, none⟩ y1).setCell ⟨g, 2, none⟩ y2).setCell ⟨g, 3, none⟩ y3).setCell ⟨g, 4, none⟩ y4).setCell ⟨g, 5, none⟩ y5)) :=
    ((((((hB.setCell hg _).setCell hg _).setCell hg _).setCell hg _).setCell hg _).setCell hg _)
  have hh : (((((((w1.setCell ⟨g, 0, none⟩ y0).setCell ⟨g, 1, none⟩ y1).setCell ⟨g, 2, none⟩ y2).setCell ⟨g, 3, none⟩ y3).setCell ⟨g, 4, none⟩ y4).setCell ⟨g, 5, none⟩ y5)).heap[g]? = some (.cells #[y0, y1, y2, y3, y4, y5] T) := h6
  generalize ((((((w1.setCell ⟨g, 0, none⟩ y0).setCell ⟨g, 1, none⟩ y1).setCell ⟨g, 2, none⟩ y2).setCell ⟨g, 3, none⟩ y3).setCell ⟨g, 4, none⟩ y4).setCell ⟨g, 5, none⟩ y5) = w2 at hh hb ⊢
  obtain ⟨⟨c0, c1, c2, c3, c4, c5⟩, -, -⟩ := row6 hh
  exact bodyPost_ret (hres w2 c0 c1 c2 c3 c4 c5) hd (hR w2 hb)
/-- a struct of 5 cells is stored into the result's block, and the call returns -/
theorem fin5 {P : Program} {fn : Func} {R : Ending → World → Prop} {a : Act} {w w1 : World} {g B : Nat} {x0 x1 x2 x3 x4 y0 y1 y2 y3 y4 : Value} {T : TypeId} (mk : Value → Value) (h : w1.heap[g]? = some (.cells #[x0, x1, x2, x3, x4] T)) (hB : Below B w w1) (hg : B ≤ g)
    (hres : ∀ w2 : World, w2.cell? ⟨g, 0, none⟩ = some y0 → w2.cell? ⟨g, 1, none⟩ = some y1 → w2.cell? ⟨g, 2, none⟩ = some y2 → w2.cell? ⟨g, 3, none⟩ = some y3 → w2.cell? ⟨g, 4, none⟩ = some y4 → (results fn a.tmps).run P w2 = .ok (mk (.agg #[y0, y1, y2, y3, y4])) w2) (hd : a.defers = []) (hR : ∀ w2, Below B w w2 → R (.returned (mk (.agg #[y0, y1, y2, y3, y4]))) w2) :
    bodyPost P fn R .ret a (((((w1.setCell ⟨g, 0, none⟩ y0).setCell ⟨g, 1, none⟩ y1).setCell ⟨g, 2, none⟩ y2).setCell ⟨g, 3, none⟩ y3).setCell ⟨g, 4, none⟩ y4) := by
  have h0 := h
  have h1 : ((w1).setCell ⟨g, 0, none⟩ y0).heap[g]? = some (.cells #[y0, x1, x2, x3, x4] T) := (heap_setCell_same (w1) g 0 _ _ _ h0).trans (by simp)
  have h2 : (((w1).setCell ⟨g, 0, none⟩ y0).setCell ⟨g, 1, none⟩ y1).heap[g]? = some (.cells #[y0, y1, x2, x3, x4] T) := (heap_setCell_same ((w1).setCell ⟨g, 0, none⟩ y0) g 1 _ _ _ h1).trans (by simp)
  have h3 : ((((w1).setCell ⟨g, 0, none⟩ y0).setCell ⟨g, 1, none⟩ y1).setCell ⟨g, 2, none⟩ y2).heap[g]? = some (.cells #[y0, y1, y2, x3, x4] T) := (heap_setCell_same (((w1).setCell ⟨g, 0, none⟩ y0).setCell ⟨g, 1, none⟩ y1) g 2 _ _ _ h2).trans (by simp)
  have h4 : (((((w1).setCell ⟨g, 0, none⟩ y0).setCell ⟨g, 1, none⟩ y1).setCell ⟨g, 2, none⟩ y2).setCell ⟨g, 3, none⟩ y3).heap[g]? = some (.cells #[y0, y1, y2, y3, x4] T) := (heap_setCell_same ((((w1).setCell ⟨g, 0, none⟩ y0).setCell ⟨g, 1, none⟩ y1).setCell ⟨g, 2, none⟩ y2) g 3 _ _ _ h3).trans (by simp)
  have h5 : ((((((w1).setCell ⟨g, 0, none⟩ y0).setCell ⟨g, 1, none⟩ y1).setCell ⟨g, 2, none⟩ y2).setCell ⟨g, 3, none⟩ y3).setCell ⟨g, 4, none⟩ y4).heap[g]? = some (.cells #[y0, y1, y2, y3, y4] T) := (heap_setCell_same (((((w1).setCell ⟨g, 0, none⟩ y0).setCell ⟨g, 1, none⟩ y1).setCell ⟨g, 2, none⟩ y2).setCell ⟨g, 3, none⟩ y3) g 4 _ _ _ h4).trans (by simp)
  have hb : Below B w ((((((w1.setCell ⟨g, 0, none⟩ y0).setCell ⟨g, 1, none⟩ y1).setCell ⟨g, 2, none⟩ y2).setCell ⟨g, 3, none⟩ y3).setCell ⟨g, 4, none⟩ y4)) :=
    (((((hB.setCell hg _).setCell hg _).setCell hg _).setCell hg _).setCell hg _)
  have hh : ((((((w1.setCell ⟨g, 0, none⟩ y0).setCell ⟨g, 1, none⟩ y1).setCell ⟨g, 2, none⟩ y2).setCell ⟨g, 3, none⟩ y3).setCell ⟨g, 4, none⟩ y4)).heap[g]? = some (.cells #[y0, y1, y2, y3, y4] T) := h5
  generalize (((((w1.setCell ⟨g, 0, none⟩ y0).setCell ⟨g, 1, none⟩ y1).setCell ⟨g, 2, none⟩ y2).setCell ⟨g, 3, none⟩ y3).setCell ⟨g, 4, none⟩ y4) = w2 at hh hb ⊢
  obtain ⟨⟨c0, c1, c2, c3, c4⟩, -, -⟩ := row5 hh
  exact bodyPost_ret (hres w2 c0 c1 c2 c3 c4) hd (hR w2 hb)
/-- 6 cells of a block stored: the block, and what stays -/
theorem set6 {w w1 : World} {g B : Nat} {x0 x1 x2 x3 x4 x5 : Value} {T : TypeId} (y0 y1 y2 y3 y4 y5 : Value) (h : w1.heap[g]? = some (.cells #[x0, x1, x2, x3, x4, x5] T)) (hB : Below B w w1) (hg : B ≤ g) :
    (((((((w1.setCell ⟨g, 0, none⟩ y0).setCell ⟨g, 1, none⟩ y1).setCell ⟨g, 2, none⟩ y2).setCell ⟨g, 3, none⟩ y3).setCell ⟨g, 4, none⟩ y4).setCell ⟨g, 5, none⟩ y5)).heap[g]? = some (.cells #[y0, y1, y2, y3, y4, y5] T) ∧ Below B w ((((((w1.setCell ⟨g, 0, none⟩ y0).setCell ⟨g, 1, none⟩ y1).setCell ⟨g, 2, none⟩ y2).setCell ⟨g, 3, none⟩ y3).setCell ⟨g, 4, none⟩ y4).setCell ⟨g, 5, none⟩ y5) := by
  have h1 : (w1.setCell ⟨g, 0, none⟩ y0).heap[g]? = some (.cells #[y0, x1, x2, x3, x4, x5] T) := (heap_setCell_same w1 g 0 _ _ _ h).trans (by simp)
  have h2 : ((w1.setCell ⟨g, 0, none⟩ y0).setCell ⟨g, 1, none⟩ y1).heap[g]? = some (.cells #[y0, y1, x2, x3, x4, x5] T) := (heap_setCell_same (w1.setCell ⟨g, 0, none⟩ y0) g 1 _ _ _ h1).trans (by simp)
  have h3 : (((w1.setCell ⟨g, 0, none⟩ y0).setCell ⟨g, 1, none⟩ y1).setCell ⟨g, 2, none⟩ y2).heap[g]? = some (.cells #[y0, y1, y2, x3, x4, x5] T) := (heap_setCell_same ((w1.setCell ⟨g, 0, none⟩ y0).setCell ⟨g, 1, none⟩ y1) g 2 _ _ _ h2).trans (by simp)
  have h4 : ((((w1.setCell ⟨g, 0, none⟩ y0).setCell ⟨g, 1, none⟩ y1).setCell ⟨g, 2, none⟩ y2).setCell ⟨g, 3, none⟩ y3).heap[g]? = some (.cells #[y0, y1, y2, y3, x4, x5] T) := (heap_setCell_same (((w1.setCell ⟨g, 0, none⟩ y0).setCell ⟨g, 1, none⟩ y1).setCell ⟨g, 2, none⟩ y2) g 3 _ _ _ h3).trans (by simp)
  have h5 : (((((w1.setCell ⟨g, 0, none⟩ y0).setCell ⟨g, 1, none⟩ y1).setCell ⟨g, 2, none⟩ y2).setCell ⟨g, 3, none⟩ y3).setCell ⟨g, 4, none⟩ y4).heap[g]? = some (.cells #[y0, y1, y2, y3, y4, x5] T) := (heap_setCell_same ((((w1.setCell ⟨g, 0, none⟩ y0).setCell ⟨g, 1, none⟩ y1).setCell ⟨g, 2, none⟩ y2).setCell ⟨g, 3, none⟩ y3) g 4 _ _ _ h4).trans (by simp)
  have h6 : ((((((w1.setCell ⟨g, 0, none⟩ y0).setCell ⟨g, 1, none⟩ y1).setCell ⟨g, 2, none⟩ y2).setCell ⟨g, 3, none⟩ y3).setCell ⟨g, 4, none⟩ y4).setCell ⟨g, 5, none⟩ y5).heap[g]? = some (.cells #[y0, y1, y2, y3, y4, y5] T) := (heap_setCell_same (((((w1.setCell ⟨g, 0, none⟩ y0).setCell ⟨g, 1, none⟩ y1).setCell ⟨g, 2, none⟩ y2).setCell ⟨g, 3, none⟩ y3).setCell ⟨g, 4, none⟩ y4) g 5 _ _ _ h5).trans (by simp)
  exact ⟨h6, ((((((hB.setCell hg _).setCell hg _).setCell hg _).setCell hg _).setCell hg _).setCell hg _)⟩
/-- 5 cells of a block stored: the block, and what stays -/
theorem set5 {w w1 : World} {g B : Nat} {x0 x1 x2 x3 x4 : Value} {T : TypeId} (y0 y1 y2 y3 y4 : Value) (h : w1.heap[g]? = some (.cells #[x0, x1, x2, x3, x4] T)) (hB : Below B w w1) (hg : B ≤ g) :
    ((((((w1.setCell ⟨g, 0, none⟩ y0).setCell ⟨g, 1, none⟩ y1).setCell ⟨g, 2, none⟩ y2).setCell ⟨g, 3, none⟩ y3).setCell ⟨g, 4, none⟩ y4)).heap[g]? = some (.cells #[y0, y1, y2, y3, y4] T) ∧ Below B w (((((w1.setCell ⟨g, 0, none⟩ y0).setCell ⟨g, 1, none⟩ y1).setCell ⟨g, 2, none⟩ y2).setCell ⟨g, 3, none⟩ y3).setCell ⟨g, 4, none⟩ y4) := by
  have h1 : (w1.setCell ⟨g, 0, none⟩ y0).heap[g]? = some (.cells #[y0, x1, x2, x3, x4] T) := (heap_setCell_same w1 g 0 _ _ _ h).trans (by simp)
  have h2 : ((w1.setCell ⟨g, 0, none⟩ y0).setCell ⟨g, 1, none⟩ y1).heap[g]? = some (.cells #[y0, y1, x2, x3, x4] T) := (heap_setCell_same (w1.setCell ⟨g, 0, none⟩ y0) g 1 _ _ _ h1).trans (by simp)
  have h3 : (((w1.setCell ⟨g, 0, none⟩ y0).setCell ⟨g, 1, none⟩ y1).setCell ⟨g, 2, none⟩ y2).heap[g]? = some (.cells #[y0, y1, y2, x3, x4] T) := (heap_setCell_same ((w1.setCell ⟨g, 0, none⟩ y0).setCell ⟨g, 1, none⟩ y1) g 2 _ _ _ h2).trans (by simp)
  have h4 : ((((w1.setCell ⟨g, 0, none⟩ y0).setCell ⟨g, 1, none⟩ y1).setCell ⟨g, 2, none⟩ y2).setCell ⟨g, 3, none⟩ y3).heap[g]? = some (.cells #[y0, y1, y2, y3, x4] T) := (heap_setCell_same (((w1.setCell ⟨g, 0, none⟩ y0).setCell ⟨g, 1, none⟩ y1).setCell ⟨g, 2, none⟩ y2) g 3 _ _ _ h3).trans (by simp)
  have h5 : (((((w1.setCell ⟨g, 0, none⟩ y0).setCell ⟨g, 1, none⟩ y1).setCell ⟨g, 2, none⟩ y2).setCell ⟨g, 3, none⟩ y3).setCell ⟨g, 4, none⟩ y4).heap[g]? = some (.cells #[y0, y1, y2, y3, y4] T) := (heap_setCell_same ((((w1.setCell ⟨g, 0, none⟩ y0).setCell ⟨g, 1, none⟩ y1).setCell ⟨g, 2, none⟩ y2).setCell ⟨g, 3, none⟩ y3) g 4 _ _ _ h4).trans (by simp)
  exact ⟨h5, (((((hB.setCell hg _).setCell hg _).setCell hg _).setCell hg _).setCell hg _)⟩
/-- three strings that the call owns -/
theorem own3 {B : Nat} {w : World} {v : Value} {x y z : ByteArray} (h : OwnS B w v [x, y, z]) :
    ∃ g cap, v = .slice (some ⟨g, 0, none⟩) 3 cap ∧ B ≤ g ∧ g < w.heap.size ∧ 3 ≤ cap ∧ cap ≤ maxLen ∧ w.cell? ⟨g, 0, none⟩ = some (.string x) ∧ w.cell? ⟨g, 1, none⟩ = some (.string y) ∧ w.cell? ⟨g, 2, none⟩ = some (.string z) := by
  have h' := h
  rcases h.2 with ⟨rfl, h0⟩ | ⟨g, cap, cur, rfl, hb, hg, hn, hm, hs, ht⟩
  · exact absurd h0 (by simp)
  · refine ⟨g, cap, rfl, hb, (Array.getElem?_eq_some_iff.1 hg).1, hn, hm, ?_, ?_, ?_⟩
    · exact h'.cellAt 0 (by simp)
    · exact h'.cellAt 1 (by simp)
    · exact h'.cellAt 2 (by simp)
theorem list3 {α : Type} {l : List α} (h : l.length = 3) : ∃ x y z, l = [x, y, z] := by
  match l, h with
  | [x, y, z], _ => exact ⟨x, y, z, rfl⟩

theorem parseReq_calls (s : ByteArray) (w : World) (hE : Env w) (hs : s.size < 4294967281) :
    Calls Tryd.prog 9 #[.string s] w fun e w' => e = .returned (.tuple #[reqV (parseReq s).1, .int .i64 (parseReq s).2]) ∧ Below w.heap.size w w' := by
  have HC := Lib.hid (fun w hE => strsplit_calls 32 s w hE hs)
  have HZ := Lib.hid (show ∀ p ∈ splitS 32 s, p.size ≤ maxLen from fun p hp => Nat.le_trans (splitS_size 32 s p hp) (by simp [maxLen]; omega))
  obtain ⟨l, hl⟩ : ∃ l, splitS 32 s = l := ⟨_, rfl⟩
  have HL := Lib.hid hl
  rw [hl] at HC HZ
  clear hl
  by_cases h3 : l.length = 3
  · obtain ⟨m, t, v, rfl⟩ := list3 h3
    have hzm := HZ.out m (by simp)
    have hzt := HZ.out t (by simp)
    have hzv := HZ.out v (by simp)
    clear HZ h3
    have HTm := Lib.hid (fun w => token_calls m w hzm)
    have HTt := Lib.hid (fun w => target_calls t w hzt)
    have HTv := Lib.hid (fun w => minor_calls v w hzv)
    have HB1 := Lib.hid (fun h => parseReq_bad HL.out h)
    have HB2 := Lib.hid (fun h h2 => parseReq_ver HL.out h h2)
    have HB3 := Lib.hid (fun h h2 => parseReq_ok HL.out h h2)
    clear hzm hzt hzv HL
    generalize token (bl m) = bm at *
    generalize targetB t = bt at *
    obtain ⟨⟨n, k⟩, hnk⟩ : ∃ p, minorB v = p := ⟨_, rfl⟩
    rw [hnk] at HTv HB2 HB3
    clear hnk
    simp only at HTv HB2 HB3
    cases bm with
    | false =>
      have HR := Lib.hid (HB1.out rfl)
      clear HB1 HB2 HB3 HTt HTv
      go_enter Tryd.func9, Tryd.ntmps9
      go_wp2_with fail
      refine (HC.out _ (hE.below ((Below.refl _ _).alloc (Nat.le_refl _) _))).mono ?_
      rintro e w1 ⟨⟨v1, rfl, ho⟩, hb1⟩
      obtain ⟨g, cap, rfl, hg1, hg2, hc1, hc2, d0, d1, d2⟩ := own3 ho
      have HA := Lib.hid (row_new hb1)
      have HB := kept_below hb1
      clear ho hb1
      go_wp2_with fail
      refine (HTm.out _).mono ?_
      rintro e w2 ⟨rfl, rfl⟩
      obtain ⟨⟨c0, c1, c2, c3, c4, c5⟩, ⟨f0, f1, f2, f3, f4, f5⟩, hz⟩ := row6 HA.out
      go_wp2
      exact fin6 (fun x => .tuple #[x, .int .i64 2]) HA.out HB (Nat.le_refl _) (fun w2 c0 c1 c2 c3 c4 c5 => by simp [results, Tryd.results9, go_sem, c0, c1, c2, c3, c4, c5]) rfl (fun w2 hb => ⟨by rw [HR.out]; rfl, hb⟩)
    | true =>
      cases bt with
      | false =>
        have HR := Lib.hid (HB1.out rfl)
        clear HB1 HB2 HB3 HTv
        go_enter Tryd.func9, Tryd.ntmps9
        go_wp2_with fail
        refine (HC.out _ (hE.below ((Below.refl _ _).alloc (Nat.le_refl _) _))).mono ?_
        rintro e w1 ⟨⟨v1, rfl, ho⟩, hb1⟩
        obtain ⟨g, cap, rfl, hg1, hg2, hc1, hc2, d0, d1, d2⟩ := own3 ho
        have HA := Lib.hid (row_new hb1)
        have HB := kept_below hb1
        clear ho hb1
        go_wp2_with fail
        refine (HTm.out _).mono ?_
        rintro e w2 ⟨rfl, rfl⟩
        go_wp2_with fail
        refine (HTt.out _).mono ?_
        rintro e w2 ⟨rfl, hb2⟩
        have HA := Lib.hid (row_below HA.out hb2)
        have HB := Below.self_trans HB hb2
        obtain ⟨e0, e1⟩ := bcell hb2
        have g0 := (e0 g 0 hg2).trans d0
        have g1 := (e0 g 1 hg2).trans d1
        have g2 := (e0 g 2 hg2).trans d2
        have hg3 := Nat.lt_of_lt_of_le hg2 hb2.size
        clear d0 d1 d2 e0 e1 hg2 hb2
        obtain ⟨⟨c0, c1, c2, c3, c4, c5⟩, ⟨f0, f1, f2, f3, f4, f5⟩, hz⟩ := row6 HA.out
        go_wp2
        exact fin6 (fun x => .tuple #[x, .int .i64 2]) HA.out HB (Nat.le_refl _) (fun w2 c0 c1 c2 c3 c4 c5 => by simp [results, Tryd.results9, go_sem, c0, c1, c2, c3, c4, c5]) rfl (fun w2 hb => ⟨by rw [HR.out]; rfl, hb⟩)
      | true =>
        by_cases hk : k = 0
        · subst hk
          have HR := Lib.hid (HB3.out rfl rfl)
          clear HB1 HB2 HB3
          go_enter Tryd.func9, Tryd.ntmps9
          go_wp2_with fail
          refine (HC.out _ (hE.below ((Below.refl _ _).alloc (Nat.le_refl _) _))).mono ?_
          rintro e w1 ⟨⟨v1, rfl, ho⟩, hb1⟩
          obtain ⟨g, cap, rfl, hg1, hg2, hc1, hc2, d0, d1, d2⟩ := own3 ho
          have HA := Lib.hid (row_new hb1)
          have HB := kept_below hb1
          clear ho hb1
          go_wp2_with fail
          refine (HTm.out _).mono ?_
          rintro e w2 ⟨rfl, rfl⟩
          go_wp2_with fail
          refine (HTt.out _).mono ?_
          rintro e w2 ⟨rfl, hb2⟩
          have HA := Lib.hid (row_below HA.out hb2)
          have HB := Below.self_trans HB hb2
          obtain ⟨e0, e1⟩ := bcell hb2
          have g0 := (e0 g 0 hg2).trans d0
          have g1 := (e0 g 1 hg2).trans d1
          have g2 := (e0 g 2 hg2).trans d2
          have hg3 := Nat.lt_of_lt_of_le hg2 hb2.size
          clear d0 d1 d2 e0 e1 hg2 hb2
          go_wp2_with fail
          refine (HTv.out _).mono ?_
          rintro e w3 ⟨rfl, hb3⟩
          have HA := Lib.hid (row_below HA.out hb3)
          have HB := Below.self_trans HB hb3
          obtain ⟨e0, e1⟩ := bcell hb3
          have k0 := (e0 g 0 hg3).trans g0
          have k1 := (e0 g 1 hg3).trans g1
          have hg4 := Nat.lt_of_lt_of_le hg3 hb3.size
          clear g0 g1 g2 e0 e1 hg3 hb3
          obtain ⟨⟨c0, c1, c2, c3, c4, c5⟩, ⟨f0, f1, f2, f3, f4, f5⟩, hz⟩ := row6 HA.out
          go_wp2_with fail
          go_region
          have hS := set6 (.string m) (.string t) (.int .i64 n) (.slice none 0 0) (.bool false) (.slice none 0 0) HA.out HB (Nat.le_refl _)
          generalize ((((((w3.setCell ⟨w.heap.size, 0, none⟩ (.string m)).setCell ⟨w.heap.size, 1, none⟩ (.string t)).setCell ⟨w.heap.size, 2, none⟩ (.int .i64 n)).setCell ⟨w.heap.size, 3, none⟩ (.slice none 0 0)).setCell ⟨w.heap.size, 4, none⟩ (.bool false)).setCell ⟨w.heap.size, 5, none⟩ (.slice none 0 0)) = w4 at hS ⊢
          obtain ⟨hh, hb⟩ := hS
          clear c0 c1 c2 c3 c4 c5 f0 f1 f2 f3 f4 f5 hz k0 k1
          obtain ⟨⟨c0, c1, c2, c3, c4, c5⟩, -, -⟩ := row6 hh
          go_wp2
          exact bodyPost_ret (v := .tuple #[.agg #[.string m, .string t, .int .i64 n, .slice none 0 0, .bool false, .slice none 0 0], .int .i64 0]) (by simp [results, Tryd.results9, go_sem, c0, c1, c2, c3, c4, c5]) rfl ⟨by rw [HR.out]; rfl, hb.drew⟩
        · have HR := Lib.hid (HB2.out rfl hk)
          have hk2 : (k == 0) = false := by simpa using hk
          have hk3 : (k != 0) = true := by simpa using hk
          clear HB1 HB2 HB3
          go_enter Tryd.func9, Tryd.ntmps9
          go_wp2_with fail
          refine (HC.out _ (hE.below ((Below.refl _ _).alloc (Nat.le_refl _) _))).mono ?_
          rintro e w1 ⟨⟨v1, rfl, ho⟩, hb1⟩
          obtain ⟨g, cap, rfl, hg1, hg2, hc1, hc2, d0, d1, d2⟩ := own3 ho
          have HA := Lib.hid (row_new hb1)
          have HB := kept_below hb1
          clear ho hb1
          go_wp2_with fail
          refine (HTm.out _).mono ?_
          rintro e w2 ⟨rfl, rfl⟩
          go_wp2_with fail
          refine (HTt.out _).mono ?_
          rintro e w2 ⟨rfl, hb2⟩
          have HA := Lib.hid (row_below HA.out hb2)
          have HB := Below.self_trans HB hb2
          obtain ⟨e0, e1⟩ := bcell hb2
          have g0 := (e0 g 0 hg2).trans d0
          have g1 := (e0 g 1 hg2).trans d1
          have g2 := (e0 g 2 hg2).trans d2
          have hg3 := Nat.lt_of_lt_of_le hg2 hb2.size
          clear d0 d1 d2 e0 e1 hg2 hb2
          go_wp2_with fail
          refine (HTv.out _).mono ?_
          rintro e w3 ⟨rfl, hb3⟩
          have HA := Lib.hid (row_below HA.out hb3)
          have HB := Below.self_trans HB hb3
          obtain ⟨e0, e1⟩ := bcell hb3
          have k0 := (e0 g 0 hg3).trans g0
          have k1 := (e0 g 1 hg3).trans g1
          have hg4 := Nat.lt_of_lt_of_le hg3 hb3.size
          clear g0 g1 g2 e0 e1 hg3 hb3
          obtain ⟨⟨c0, c1, c2, c3, c4, c5⟩, ⟨f0, f1, f2, f3, f4, f5⟩, hz⟩ := row6 HA.out
          go_wp2
          exact fin6 (fun x => .tuple #[x, .int .i64 k]) HA.out HB (Nat.le_refl _) (fun w2 c0 c1 c2 c3 c4 c5 => by simp [results, Tryd.results9, go_sem, c0, c1, c2, c3, c4, c5]) rfl (fun w2 hb => ⟨by rw [HR.out]; rfl, hb⟩)
  · have HR := Lib.hid (parseReq_len HL.out h3)
    have h4 : ((l.length : Int) == 3) = false := by rw [beq_eq_false_iff_ne]; omega
    have h5 : ((l.length : Int) != 3) = true := by rw [bne_iff_ne]; omega
    clear HL HZ h3
    go_enter Tryd.func9, Tryd.ntmps9
    go_wp2_with fail
    refine (HC.out _ (hE.below ((Below.refl _ _).alloc (Nat.le_refl _) _))).mono ?_
    rintro e w1 ⟨⟨v1, rfl, ho⟩, hb1⟩
    obtain ⟨a, cap, rfl, hc1, hc2, hc3⟩ := owned_slice ho
    have HA := Lib.hid (row_new hb1)
    have HB := kept_below hb1
    clear ho hb1
    obtain ⟨⟨c0, c1, c2, c3, c4, c5⟩, ⟨f0, f1, f2, f3, f4, f5⟩, hz⟩ := row6 HA.out
    go_wp2
    exact fin6 (fun x => .tuple #[x, .int .i64 2]) HA.out HB (Nat.le_refl _) (fun w2 c0 c1 c2 c3 c4 c5 => by simp [results, Tryd.results9, go_sem, c0, c1, c2, c3, c4, c5]) rfl (fun w2 hb => ⟨by rw [HR.out]; rfl, hb⟩)
end Go.Proofs.YtglljdhhgmgbgaaDoor
