/- canarymade.Source: numbers out of a list; what is made of them. -/
import Derived.Test.YtglljdhhgmgbgaaDoorField
namespace Go.Proofs.YtglljdhhgmgbgaaDoor
open Go.RowKit Go.Own
set_option linter.unusedVariables false

def intV (x : Int) : Value := .int .i64 x
def intsV (l : List Int) : List Value := l.map intV
theorem intsV_length (l : List Int) : (intsV l).length = l.length := List.length_map ..
theorem rdc_int {w : World} {a : Option Addr} {l : List Int} (h : RdC w a (intsV l)) (k : Nat) (hk : k < l.length) :
    ∃ b off, a = some ⟨b, off, none⟩ ∧ w.cell? ⟨b, off + k, none⟩ = some (.int .i64 l[k]) := by
  obtain ⟨b, off, ha, hc⟩ := h k (by rw [intsV_length]; exact hk)
  refine ⟨b, off, ha, ?_⟩
  rw [hc]
  simp [intsV, intV]
/-- a []int reads as l, each in the range of int -/
def In64 (x : Int) : Prop := -9223372036854775808 ≤ x ∧ x ≤ 9223372036854775807
def RdI (w : World) (v : Value) (l : List Int) : Prop := Rd w v l.length (intsV l) ∧ ∀ x ∈ l, In64 x
theorem RdI.below {w w' : World} {v : Value} {l : List Int} (h : RdI w v l) (hb : Below w.heap.size w w') : RdI w' v l := ⟨h.1.below hb, h.2⟩

/-- x modulo n, not negative -/
def within (x n : Int) : Int := (x.tmod n + n) % n
theorem within_bd (x n : Int) (h : 0 < n) : 0 ≤ within x n ∧ within x n < n := ⟨Int.emod_nonneg _ (by omega), Int.emod_lt_of_pos _ h⟩

theorem tmod_bd (x n : Int) (h : 0 < n) : -n < x.tmod n ∧ x.tmod n < n := by
  have h1 := Int.tmod_lt_of_pos x h
  have h2 := Int.lt_tmod_of_pos x h
  exact ⟨h2, h1⟩

set_option maxHeartbeats 400000 in
theorem within_calls (x n : Int) (w : World) (hx : In64 x) (hn : 0 < n) (hn2 : n ≤ 4611686018427387904) :
    Calls Tryd.prog 4 #[.int .i64 x, .int .i64 n] w fun e w' => e = .returned (.int .i64 (within x n)) ∧ w = w' := by
  obtain ⟨h1, h2⟩ := hx
  have hb := tmod_bd x n hn
  obtain ⟨hb1, hb2⟩ := hb
  have hp : 0 ≤ x.tmod n + n := by omega
  go_enter Tryd.func4, Tryd.ntmps4
  go_wp2
  go_ret
  exact ⟨rfl, rfl⟩



theorem rdc_row {w w' : World} {p g : Nat} {l : List Int} {a : Option Addr} (h : RdC w a (intsV l)) (h7 : l = [] ∨ ∀ b, blk a = some b → b < p) (hg : w.grownBy w' (some g)) (hpg : p ≤ g) : RdC w' a (intsV l) := by
  rcases h7 with rfl | h7
  · exact fun k hk => absurd hk (Nat.not_lt_zero _)
  · refine h.grown hg ?_
    cases e : blk a with
    | none => exact Or.inl rfl
    | some b => right; intro e2; have := h7 b e; have := Option.some.inj e2; omega


theorem within_quiet (x n : Int) (w : World) (hx : In64 x) (hn : 0 < n) (hn2 : n ≤ 4611686018427387904) :
    Calls Tryd.prog 4 #[.int .i64 x, .int .i64 n] w fun e w' => e = .returned (.int .i64 (within x n)) ∧ w' = w :=
  (within_calls x n w hx hn hn2).mono fun e w' ⟨he, hw⟩ => ⟨he, hw.symm⟩
theorem grown_set (w : World) (p j : Nat) (u : Value) : w.grownBy (w.setCell ⟨p, j, none⟩ u) (some p) :=
  ⟨rfl, rfl, rfl, by simp, fun k _ hk => heap_setCell_other w ⟨p, j, none⟩ k u (fun e => hk (by simp [e]))⟩




theorem RdC_grown' {w w' : World} {p : Nat} {a : Option Addr} {xs : List Value} (h : RdC w a xs) (hg : w.grownBy w' (some p)) (hne : blk a ≠ some p) : RdC w' a xs :=
  h.grown hg (by cases e : blk a with | none => exact Or.inl rfl | some b => right; intro e2; exact hne (by rw [e, e2]))



theorem grown_at {w w' : World} {p g : Nat} {o : Obj} (hg : w.grownBy w' (some p)) (h : w.heap[g]? = some o) (hne : g ≠ p) : w'.heap[g]? = some o :=
  (hg.block g (Array.getElem?_eq_some_iff.1 h).1 (by simpa using hne)).trans h
/-- two stores into a block that was not there -/
theorem grown_set2 {w w2 : World} {row : Option Nat} (h : w.grownBy w2 row) {g : Nat} (hg : w.heap.size ≤ g) (u v : Value) : w.grownBy ((w2.setCell ⟨g, 0, none⟩ u).setCell ⟨g, 1, none⟩ v) row :=
  ⟨h.os, h.tape, h.output, by simpa using h.size, fun k hk hne => by
    rw [heap_setCell_other _ ⟨g, 1, none⟩ k v (by simp; omega), heap_setCell_other _ ⟨g, 0, none⟩ k u (by simp; omega)]
    exact h.block k hk hne⟩


/-- a write to a row of the call's own is no write to what was there -/
theorem grownBy_own {w0 w w' : World} {row r2 : Option Nat} (h : w0.grownBy w row) (hg : w.grownBy w' r2) (hr : ∀ k, r2 = some k → w0.heap.size ≤ k) : w0.grownBy w' row :=
  ⟨hg.os.trans h.os, hg.tape.trans h.tape, hg.output.trans h.output, Nat.le_trans h.size hg.size, fun k hk hne =>
    (hg.block k (Nat.lt_of_lt_of_le hk h.size) (fun e => by have := hr k e.symm; omega)).trans (h.block k hk hne)⟩


def madeNames : List ByteArray := [⟨#[88, 45, 65]⟩, ⟨#[120, 45, 97]⟩, ⟨#[88, 45, 66]⟩, ⟨#[65, 99, 99, 101, 112, 116]⟩, ⟨#[67, 111, 110, 110, 101, 99, 116, 105, 111, 110]⟩, ⟨#[86, 105, 97]⟩, ⟨#[67, 111, 111, 107, 105, 101]⟩, ⟨#[84, 69]⟩, ⟨#[75, 101, 101, 112, 45, 65, 108, 105, 118, 101]⟩, ⟨#[88, 45, 70, 111, 114, 119, 97, 114, 100, 101, 100, 45, 70, 111, 114]⟩, ⟨#[68, 97, 116, 101]⟩, ⟨#[69, 84, 97, 103]⟩, ⟨#[85, 112, 103, 114, 97, 100, 101]⟩, ⟨#[88, 45, 83, 104, 97, 100, 111, 119]⟩]
def madeValues : List ByteArray := [⟨#[]⟩, ⟨#[49]⟩, ⟨#[97, 44, 32, 98]⟩, ⟨#[120, 45, 97]⟩, ⟨#[99, 108, 111, 115, 101]⟩, ⟨#[107, 101, 101, 112, 45, 97, 108, 105, 118, 101]⟩, ⟨#[88, 45, 66, 44, 32, 116, 101]⟩, ⟨#[99, 111, 104, 111, 114, 116, 61, 48, 49, 50, 51, 52, 53, 54, 55, 56, 57, 97, 98, 99, 100, 101, 102]⟩, ⟨#[107, 61, 118, 59, 32, 99, 111, 104, 111, 114, 116, 61, 48, 48, 48, 48, 48, 48, 48, 48, 48, 48, 48, 48, 48, 48, 102, 102]⟩, ⟨#[49, 46, 49, 32, 111, 116, 104, 101, 114]⟩, ⟨#[9, 63, 128, 59, 61]⟩]
theorem madeNames_ok : ∀ x ∈ madeNames, token (bl x) = true ∧ x.size ≤ 15 := by decide +kernel
theorem madeValues_ok : ∀ x ∈ madeValues, value (bl (trimB x)) = true ∧ x.size ≤ 28 := by decide +kernel

/-- what a made field is -/
def MadeF (f : Fld) : Prop := validF f = true ∧ f.name.size ≤ 15 ∧ f.val.size ≤ 28 ∧ f.name ∈ madeNames
theorem made_mk {n v : ByteArray} (hn : n ∈ madeNames) (hv : v ∈ madeValues) : MadeF ⟨n, trimB v⟩ :=
  ⟨by unfold validF; rw [(madeNames_ok n hn).1, (madeValues_ok v hv).1]; rfl, (madeNames_ok n hn).2, Nat.le_trans (trimB_size v) (madeValues_ok v hv).2, hn⟩



theorem info_fld : (Tryd.prog.info? 24).map (fun i => (i.zero, i.size, i.bytes)) = some (some (.agg #[.string .empty, .string .empty]), 2, 32) := by kernel_rfl
/-- a slice of fields, made by the call: it is owned -/
def OwnF (B : Nat) (w : World) (v : Value) (l : List Fld) : Prop := w.ownsRow B 24 2 v l.length (fieldsV l)
theorem OwnF.rd {B : Nat} {w : World} {v : Value} {l : List Fld} (h : OwnF B w v l) : RdF w v l := Rd_owned h
theorem OwnF.snoc {B : Nat} {w : World} {v : Value} {l : List Fld} {f : Fld} (h : w.ownsRow B 24 2 v (l.length + 1) (fieldsV l ++ f.cells)) : OwnF B w v (l ++ [f]) := by
  have e1 : (l ++ [f]).length = l.length + 1 := by simp
  have e2 : fieldsV (l ++ [f]) = fieldsV l ++ f.cells := by simp [fieldsV]
  rw [OwnF, e1, e2]; exact h
theorem OwnF.below {B : Nat} {w w' : World} {v : Value} {l : List Fld} (h : OwnF B w v l) (hb : Below w.heap.size w w') : OwnF B w' v l := own_below h hb





theorem below_new {w w' : World} {o : Obj} (hg : (w.alloc o).grownBy w' (some w.heap.size)) : Below w.heap.size w w' :=
  ⟨hg.os, hg.tape, hg.output, by have := hg.size; simp at this; omega, fun k hk => (hg.block k (by simp; omega) (by intro h; injection h with h; omega)).trans (Array.getElem?_push_lt hk ▸ (Array.getElem?_eq_getElem hk).symm)⟩

end Go.Proofs.YtglljdhhgmgbgaaDoor
