/- What the walks ask of the package-level variables of the library: that they hold something. -/
import Derived.Test.YtffllobpaemlgaaDoorRows
import Derived.Test.YtffllobpaemlgaaDoorLib
namespace Go.Proofs.YtffllobpaemlgaaDoor
open Go.RowKit Go.Own
set_option linter.unusedVariables false

structure Env (w : World) : Prop where
  max : ∃ m, w.cell? ⟨0, 0, none⟩ = some (.int .i64 m)
  ok : True

theorem cell_below {w w' : World} {p : Addr} {v : Value} (hb : Below w.heap.size w w') (h : w.cell? p = some v) : w'.cell? p = some v :=
  (hb.cell (World.block_lt_of_cell? w p h)).trans h

theorem Env.below {w w' : World} (h : Env w) (hb : Below w.heap.size w w') : Env w' where
  max := h.max.imp fun _ e => cell_below hb e
  ok := trivial

theorem info_u8 : (Tryd.prog.info? 5).map (fun i => (i.zero, i.size, i.bytes)) = some (some (.int .u8 0), 1, 1) := by kernel_rfl
theorem info_str : (Tryd.prog.info? 9).map (fun i => (i.zero, i.size, i.bytes)) = some (some (.string .empty), 1, 16) := by kernel_rfl

/-- a slice of strings, made by the call: it is owned -/
def OwnS (B : Nat) (w : World) (v : Value) (l : List ByteArray) : Prop := w.ownsRow B 9 1 v l.length (strsV l)
theorem OwnS.rd {B : Nat} {w : World} {v : Value} {l : List ByteArray} (h : OwnS B w v l) : RdS w v l := Rd_owned h

theorem OwnS.snoc {B : Nat} {w : World} {v : Value} {l : List ByteArray} {x : ByteArray} (h : w.ownsRow B 9 1 v (l.length + 1) (strsV l ++ [.string x])) : OwnS B w v (l ++ [x]) := by
  have e1 : (l ++ [x]).length = l.length + 1 := by simp
  have e2 : strsV (l ++ [x]) = strsV l ++ [.string x] := by simp [strsV]
  rw [OwnS, e1, e2]; exact h
theorem one_cell_str (x : ByteArray) : ∀ u ∈ [Value.string x], u.oneCell' = true := by
  intro u hu
  rw [List.mem_singleton] at hu
  rw [hu]; rfl
theorem OwnS.below {B : Nat} {w w' : World} {v : Value} {l : List ByteArray} (h : OwnS B w v l) (hb : Below w.heap.size w w') : OwnS B w' v l := own_below h hb
end Go.Proofs.YtffllobpaemlgaaDoor
