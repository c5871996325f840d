/- What the walks ask of the package-level variables of the library: that they hold something. -/
import Derived.Test.YtfmokccoilgpmaaGreatDoorRows
import Derived.Test.YtfmokccoilgpmaaGreatDoorLib
import Derived.Lib.LaidTab
import Derived.Lib.ItoaNum
namespace Go.Proofs.YtfmokccoilgpmaaGreatDoor
open Go.RowKit Go.Own
set_option linter.unusedVariables false

def debTab : List Int := [0, 1, 56, 2, 57, 49, 28, 3, 61, 58, 42, 50, 38, 29, 17, 4, 62, 47, 59, 36, 45, 43, 51, 22, 53, 39, 33, 30, 24, 18, 12, 5, 63, 55, 48, 27, 60, 41, 37, 16, 46, 35, 44, 21, 52, 32, 23, 11, 54, 26, 40, 15, 34, 20, 31, 10, 25, 14, 19, 9, 13, 8, 7, 6]
theorem tab_below {w w' : World} {name : String} {k : IntKind} {zs : List Int} {g : Nat} (hg : Tryz.prog.globalNamed name = some g) (h : Lib.TabIs Tryz.prog w name k zs) (hb : Below w.heap.size w w') : Lib.TabIs Tryz.prog w' name k zs := by
  unfold Lib.TabIs World.var? at h ⊢
  rw [hg] at h ⊢
  simp only [Option.bind_some] at h ⊢
  have hlt : g < w.heap.size := by
    rcases Nat.lt_or_ge g w.heap.size with h' | h'
    · exact h'
    · rw [Array.getElem?_eq_none h'] at h; cases h
  rw [hb.block g hlt]; exact h

structure Env (w : World) : Prop where
  max : ∃ m, w.cell? ⟨1, 0, none⟩ = some (.int .i64 m)
  ok : True
/-- Env, and the tables that strconv reads -/
structure EnvP (w : World) : Prop where
  env : Env w
  pow : Lib.TabIs Tryz.prog w "internal/strconv.uint64pow10" .u64 Lib.pow10Tab
  deb : Lib.TabIs Tryz.prog w "math/bits.deBruijn64tab" .u8 debTab

theorem cell_below {w w' : World} {p : Addr} {v : Value} (hb : Below w.heap.size w w') (h : w.cell? p = some v) : w'.cell? p = some v :=
  (hb.cell (World.block_lt_of_cell? w p h)).trans h

theorem Env.below {w w' : World} (h : Env w) (hb : Below w.heap.size w w') : Env w' where
  max := h.max.imp fun _ e => cell_below hb e
  ok := trivial
theorem EnvP.below {w w' : World} (h : EnvP w) (hb : Below w.heap.size w w') : EnvP w' where
  env := h.env.below hb
  pow := tab_below (g := 2) (by kernel_rfl) h.pow hb
  deb := tab_below (g := 6) (by kernel_rfl) h.deb hb

theorem info_u8 : (Tryz.prog.info? 5).map (fun i => (i.zero, i.size, i.bytes)) = some (some (.int .u8 0), 1, 1) := by kernel_rfl
theorem info_str : (Tryz.prog.info? 9).map (fun i => (i.zero, i.size, i.bytes)) = some (some (.string .empty), 1, 16) := by kernel_rfl

/-- a slice of strings, made by the call: it is owned -/
def OwnS (B : Nat) (w : World) (v : Value) (l : List ByteArray) : Prop := w.ownsRow B 9 1 v l.length (strsV l)
theorem OwnS.rd {B : Nat} {w : World} {v : Value} {l : List ByteArray} (h : OwnS B w v l) : RdS w v l := Rd_owned h

theorem OwnS.snoc {B : Nat} {w : World} {v : Value} {l : List ByteArray} {x : ByteArray} (h : w.ownsRow B 9 1 v (l.length + 1) (strsV l ++ [.string x])) : OwnS B w v (l ++ [x]) := by
  have e1 : (l ++ [x]).length = l.length + 1 := by simp
  have e2 : strsV (l ++ [x]) = strsV l ++ [.string x] := by simp [strsV]
  rw [OwnS, e1, e2]; exact h
theorem one_cell_str (x : ByteArray) : ∀ u ∈ [Value.string x], u.oneCell' = true := by
  intro u hu
  rw [List.mem_singleton] at hu
  rw [hu]; rfl
theorem OwnS.below {B : Nat} {w w' : World} {v : Value} {l : List ByteArray} (h : OwnS B w v l) (hb : Below w.heap.size w w') : OwnS B w' v l := own_below h hb
end Go.Proofs.YtfmokccoilgpmaaGreatDoor
