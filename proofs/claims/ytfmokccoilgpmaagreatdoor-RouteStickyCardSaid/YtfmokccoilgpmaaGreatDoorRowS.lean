/- Rows of many cells, stored and loaded whole. -/
import Derived.Test.YtfmokccoilgpmaaGreatDoorLineR
import Derived.Laws.Tables
import Derived.Deep.WholeRow
namespace Go.Proofs.YtfmokccoilgpmaaGreatDoor
open Go.RowKit Go.Own
set_option linter.unusedVariables false

theorem heap_setRow_other (w : World) (g k : Nat) (cs : Array Value) (h : k ≠ g) : (w.setRow g cs).heap[k]? = w.heap[k]? := by
  simp only [World.setRow, Array.getElem?_modify]
  rw [if_neg (fun e => h e.symm)]
theorem grown_setRow (w : World) (g : Nat) (cs : Array Value) : w.grownBy (w.setRow g cs) (some g) :=
  ⟨rfl, rfl, rfl, by simp, fun k _ hk => heap_setRow_other w g k cs (fun e => hk (by simp [e]))⟩
theorem below_setRow {w w1 : World} (h : Below w.heap.size w w1) (g : Nat) (cs : Array Value) (hg : w.heap.size ≤ g) : Below w.heap.size w (w1.setRow g cs) :=
  ⟨h.os, h.tape, h.output, by rw [size_setRow]; exact h.size, fun k hk => (heap_setRow_other w1 g k cs (by omega)).trans (h.block k hk)⟩
/-- the row of the result's block is what the call returns -/
theorem finrow {P : Program} {fn : Func} {R : Ending → World → Prop} {a : Act} {w : World} {p : Tmp} {ty t : TypeId} {g : Nat} {cs : Array Value} {fr : Nat × Nat} (d : TypeDesc) (h : fn.results = #[.cell p ty]) (hp : a.tmps.getD p undef = .pointer (some ⟨g, 0, none⟩))
    (hg : w.heap[g]? = some (.cells cs t fr)) (hu : P.underlying ty = some d) (hd : (match d with | .struct _ | .array _ _ => true | _ => false) = true) (hi : (P.info? ty).map (·.size) = some cs.size)
    (hdf : a.defers = []) (hR : R (.returned (.agg cs)) w) : bodyPost P fn R .ret a w :=
  bodyPost_ret (results_cell_row h a.tmps w g t cs fr d hp hg hu hd hi) hdf hR
theorem all_one {cs : List Value} (h : ∀ v ∈ cs, v.oneCell' = true) : cs.toArray.all (·.oneCell') = true :=
  Array.all_eq_true_iff_forall_mem.2 (fun v hv => h v (by simpa using hv))
end Go.Proofs.YtfmokccoilgpmaaGreatDoor
