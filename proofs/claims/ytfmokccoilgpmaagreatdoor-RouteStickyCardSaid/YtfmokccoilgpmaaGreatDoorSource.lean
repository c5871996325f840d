/- canarymade.Source: numbers out of a list; what is made of them. -/
import Derived.Test.YtfmokccoilgpmaaGreatDoorField
namespace Go.Proofs.YtfmokccoilgpmaaGreatDoor
open Go.RowKit Go.Own
set_option linter.unusedVariables false

def intV (x : Int) : Value := .int .i64 x
def intsV (l : List Int) : List Value := l.map intV
theorem intsV_length (l : List Int) : (intsV l).length = l.length := List.length_map ..
theorem rdc_int {w : World} {a : Option Addr} {l : List Int} (h : RdC w a (intsV l)) (k : Nat) (hk : k < l.length) :
    ∃ b off, a = some ⟨b, off, none⟩ ∧ w.cell? ⟨b, off + k, none⟩ = some (.int .i64 l[k]) := by
  obtain ⟨b, off, ha, hc⟩ := h k (by rw [intsV_length]; exact hk)
  refine ⟨b, off, ha, ?_⟩
  rw [hc]
  simp [intsV, intV]
/-- a []int reads as l, each in the range of int -/
def In64 (x : Int) : Prop := -9223372036854775808 ≤ x ∧ x ≤ 9223372036854775807
def RdI (w : World) (v : Value) (l : List Int) : Prop := Rd w v l.length (intsV l) ∧ ∀ x ∈ l, In64 x
theorem RdI.below {w w' : World} {v : Value} {l : List Int} (h : RdI w v l) (hb : Below w.heap.size w w') : RdI w' v l := ⟨h.1.below hb, h.2⟩

/-- x modulo n, not negative -/
def within (x n : Int) : Int := (x.tmod n + n) % n
theorem within_bd (x n : Int) (h : 0 < n) : 0 ≤ within x n ∧ within x n < n := ⟨Int.emod_nonneg _ (by omega), Int.emod_lt_of_pos _ h⟩

theorem tmod_bd (x n : Int) (h : 0 < n) : -n < x.tmod n ∧ x.tmod n < n := by
  have h1 := Int.tmod_lt_of_pos x h
  have h2 := Int.lt_tmod_of_pos x h
  exact ⟨h2, h1⟩

set_option maxHeartbeats 400000 in
theorem within_calls (x n : Int) (w : World) (hx : In64 x) (hn : 0 < n) (hn2 : n ≤ 4611686018427387904) :
    Calls Tryz.prog 14 #[.int .i64 x, .int .i64 n] w fun e w' => e = .returned (.int .i64 (within x n)) ∧ w = w' := by
  obtain ⟨h1, h2⟩ := hx
  have hb := tmod_bd x n hn
  obtain ⟨hb1, hb2⟩ := hb
  have hp : 0 ≤ x.tmod n + n := by omega
  go_enter Tryz.func14, Tryz.ntmps14
  go_wp2
  go_ret
  exact ⟨rfl, rfl⟩

/-- block p is a Source over the numbers l -/
def Src (w : World) (p : Nat) (l : List Int) : Prop :=
  ∃ a cap, ∃ i : Nat, w.heap[p]? = some (.cells #[.slice a l.length cap, .int .i64 i] 60 (0, 0)) ∧ i ≤ l.length ∧ l.length ≤ cap ∧ cap ≤ maxLen ∧ (a = none → cap = 0) ∧ RdC w a (intsV l) ∧ (l = [] ∨ ∀ b, blk a = some b → b < p) ∧ ∀ x ∈ l, In64 x

theorem rdc_row {w w' : World} {p g : Nat} {l : List Int} {a : Option Addr} (h : RdC w a (intsV l)) (h7 : l = [] ∨ ∀ b, blk a = some b → b < p) (hg : w.grownBy w' (some g)) (hpg : p ≤ g) : RdC w' a (intsV l) := by
  rcases h7 with rfl | h7
  · exact fun k hk => absurd hk (Nat.not_lt_zero _)
  · refine h.grown hg ?_
    cases e : blk a with
    | none => exact Or.inl rfl
    | some b => right; intro e2; have := h7 b e; have := Option.some.inj e2; omega
theorem Src.lt {w : World} {p : Nat} {l : List Int} (h : Src w p l) : p < w.heap.size := by
  obtain ⟨a, cap, i, h1, -⟩ := h
  exact (Array.getElem?_eq_some_iff.1 h1).1
/-- a Source stays one while the world grows elsewhere -/
theorem Src.grown {w w' : World} {p : Nat} {l : List Int} (h : Src w p l) (hb : Below w.heap.size w w') : Src w' p l := by
  have hlt := h.lt
  obtain ⟨a, cap, i, h1, h2, h3, h4, h5, h6, h7, h8⟩ := h
  exact ⟨a, cap, i, (hb.block p hlt).trans h1, h2, h3, h4, h5, h6.below hb, h7, h8⟩
theorem Src.drewN {w : World} {p : Nat} {l : List Int} (h : Src w p l) (n : Nat) : Src (w.drewN n) p l := h.grown (below_drewN (Below.refl _ _) n)

theorem within_quiet (x n : Int) (w : World) (hx : In64 x) (hn : 0 < n) (hn2 : n ≤ 4611686018427387904) :
    Calls Tryz.prog 14 #[.int .i64 x, .int .i64 n] w fun e w' => e = .returned (.int .i64 (within x n)) ∧ w' = w :=
  (within_calls x n w hx hn hn2).mono fun e w' ⟨he, hw⟩ => ⟨he, hw.symm⟩
theorem grown_set (w : World) (p j : Nat) (u : Value) : w.grownBy (w.setCell ⟨p, j, none⟩ u) (some p) :=
  ⟨rfl, rfl, rfl, by simp, fun k _ hk => heap_setCell_other w ⟨p, j, none⟩ k u (fun e => hk (by simp [e]))⟩
theorem src_next {w : World} {p : Nat} {l : List Int} {a : Option Addr} {cap i : Nat} (h : Src w p l) (hh : w.heap[p]? = some (.cells #[.slice a l.length cap, .int .i64 i] 60 (0, 0))) (hlt : i < l.length) (nq : Nat) :
    Src ((w.drewN nq).setCell ⟨p, 1, none⟩ (.int .i64 (↑i + 1))) p l := by
  obtain ⟨a', cap', i', h1, h2, h3, h4, h5, h6, h7, h8⟩ := h
  rw [hh] at h1
  simp only [Option.some.injEq, Obj.cells.injEq, Array.mk.injEq, List.cons.injEq, Value.slice.injEq, true_and, and_true, Value.int.injEq] at h1
  obtain ⟨⟨rfl, rfl⟩, hi⟩ := h1
  refine ⟨a, cap, i + 1, heap_setCell_same (w.drewN nq) p 1 _ _ _ hh, hlt, h3, h4, h5, ?_, h7, h8⟩
  exact rdc_row (h6.below (below_drewN (Below.refl _ _) nq)) h7 (grown_set _ p 1 _) (Nat.le_refl _)

set_option maxHeartbeats 1000000 in
theorem next_calls (p : Nat) (l : List Int) (n : Int) (w : World) (h : Src w p l) (hn : 0 < n) (hn2 : n ≤ 4611686018427387904) :
    Calls Tryz.prog 45 #[.pointer (some ⟨p, 0, none⟩), .int .i64 n] w fun e w' => (∃ r : Int, e = .returned (.int .i64 r) ∧ 0 ≤ r ∧ r < n) ∧ w.grownBy w' (some p) ∧ Src w' p l := by
  have HS := Lib.hid h
  obtain ⟨a, cap, i, hh, hi, hlc, hcm, hn0, hr, hne, hx⟩ := h
  have c0 : w.cell? ⟨p, 0, none⟩ = some (.slice a l.length cap) := cell_of_row w p 0 _ _ _ hh
  have c1 : w.cell? ⟨p, 1, none⟩ = some (.int .i64 i) := cell_of_row w p 1 _ _ _ hh
  have f1 : w.frozen? ⟨p, 1, none⟩ = false := frozen_of_row w p 1 _ _ hh
  have hlm : l.length ≤ 9223372036854775807 := by unfold maxLen at hcm; omega
  by_cases hlt : i < l.length
  · obtain ⟨b, off, rfl, hcell⟩ := rdc_int hr i hlt
    have hxi := hx l[i] (List.getElem_mem hlt)
    have HH := Lib.hid hh
    have HR := Lib.hid hr
    have HX := Lib.hid hx
    clear hh hr hx hn0
    have hbp : b ≠ p := by
      rcases hne with e | e
      · rw [e] at hlt; exact absurd hlt (Nat.not_lt_zero _)
      · have := e b rfl; omega
    have hil : decide ((l.length : Int) ≤ (i : Int)) = false := by rw [decide_eq_false_iff_not]; omega
    go_enter Tryz.func45, Tryz.ntmps45
    go_wp2
    go_quiet (fail)
    go_wp2
    have hb0 : w.heap[p]? = some (.cells #[.slice (some ⟨b, off, none⟩) l.length cap, .int .i64 i] 60 (0, 0)) := HH.out
    have W1 : ((w.drewN nq).setCell ⟨p, 1, none⟩ (.int .i64 (↑i + 1))).heap[p]? = some (.cells #[.slice (some ⟨b, off, none⟩) l.length cap, .int .i64 (↑i + 1)] 60 (0, 0)) :=
      heap_setCell_same (w.drewN nq) p 1 _ _ _ hb0
    have W2 : ((w.drewN nq).setCell ⟨p, 1, none⟩ (.int .i64 (↑i + 1))).cell? ⟨b, off + i, none⟩ = some (.int .i64 l[i]) := by
      rw [World.cell?_setCell_other _ _ _ _ (by intro e; simp only [Addr.mk.injEq] at e; exact hbp e.1.symm)]; exact hcell
    have W3 := grownBy_trans (grownBy_below (below_drewN (Below.refl w.heap.size w) nq) (some p)) (grown_set (w.drewN nq) p 1 (.int .i64 (↑i + 1)))
    have hs1 := src_next HS.out HH.out hlt nq
    generalize ((w.drewN nq).setCell ⟨p, 1, none⟩ (.int .i64 (↑i + 1))) = w3 at *
    have d0 : w3.cell? ⟨p, 0, none⟩ = some (.slice (some ⟨b, off, none⟩) l.length cap) := cell_of_row w3 p 0 _ _ _ W1
    have d1 : w3.cell? ⟨p, 1, none⟩ = some (.int .i64 (↑i + 1)) := cell_of_row w3 p 1 _ _ _ W1
    have HW1 := Lib.hid W1
    clear W1 c0 c1 f1 hb0 hcell
    have hwr : IntKind.i64.wrap (i : Int) = (i : Int) := IntWalk.i64_in _ (by omega)
    have hil2 : (i : Int) < (l.length : Int) := by omega
    go_quiet ((go_at_call 14; exact Calls.quiet_of_same (within_quiet _ _ _ hxi hn hn2)))
    go_wp2
    go_ret
    have hbd := within_bd l[i] n hn
    exact ⟨⟨_, rfl, hbd.1, hbd.2⟩, grownBy_trans W3 (grownBy_below (below_drewN (Below.refl _ _) _) _), hs1.drewN _⟩
  · have hil : decide ((l.length : Int) ≤ (i : Int)) = true := by rw [decide_eq_true_eq]; omega
    clear hh hr hx hn0
    go_enter Tryz.func45, Tryz.ntmps45
    go_wp2
    go_quiet (fail)
    go_wp2
    go_ret
    exact ⟨⟨_, rfl, by omega, by omega⟩, grownBy_below (below_drewN (Below.refl _ _) _) _, HS.out.drewN _⟩

theorem RdC_grown' {w w' : World} {p : Nat} {a : Option Addr} {xs : List Value} (h : RdC w a xs) (hg : w.grownBy w' (some p)) (hne : blk a ≠ some p) : RdC w' a xs :=
  h.grown hg (by cases e : blk a with | none => exact Or.inl rfl | some b => right; intro e2; exact hne (by rw [e, e2]))

set_option maxHeartbeats 1000000 in
theorem of_calls (p : Nat) (l : List Int) (v : Value) (ls : List ByteArray) (a : Option Addr) (cap : Nat) (w : World) (h : Src w p l) (hv : v = .slice a ls.length cap) (hr : RdC w a (strsV ls)) (hne : blk a ≠ some p) (hpos : 0 < ls.length) (hlen : ls.length ≤ 1000000) :
    Calls Tryz.prog 47 #[.pointer (some ⟨p, 0, none⟩), v] w fun e w' => (∃ x ∈ ls, e = .returned (.string x)) ∧ w.grownBy w' (some p) ∧ Src w' p l := by
  subst hv
  have hp : (0 : Int) < (ls.length : Int) := by omega
  go_enter Tryz.func47, Tryz.ntmps47
  go_wp2_with fail
  refine (next_calls p l _ _ h hp (by omega)).mono ?_
  rintro e w1 ⟨⟨r, rfl, hr1, hr2⟩, hg, hs⟩
  obtain ⟨m, rfl⟩ := Int.eq_ofNat_of_zero_le hr1
  have hm : m < ls.length := by omega
  obtain ⟨b, off, rfl, hcell⟩ := (RdC_grown' hr hg hne).str m hm
  go_wp2
  go_ret
  exact ⟨⟨ls[m], List.getElem_mem hm, rfl⟩, hg, hs⟩

theorem grown_at {w w' : World} {p g : Nat} {o : Obj} (hg : w.grownBy w' (some p)) (h : w.heap[g]? = some o) (hne : g ≠ p) : w'.heap[g]? = some o :=
  (hg.block g (Array.getElem?_eq_some_iff.1 h).1 (by simpa using hne)).trans h
/-- two stores into a block that was not there -/
theorem grown_set2 {w w2 : World} {row : Option Nat} (h : w.grownBy w2 row) {g : Nat} (hg : w.heap.size ≤ g) (u v : Value) : w.grownBy ((w2.setCell ⟨g, 0, none⟩ u).setCell ⟨g, 1, none⟩ v) row :=
  ⟨h.os, h.tape, h.output, by simpa using h.size, fun k hk hne => by
    rw [heap_setCell_other _ ⟨g, 1, none⟩ k v (by simp; omega), heap_setCell_other _ ⟨g, 0, none⟩ k u (by simp; omega)]
    exact h.block k hk hne⟩
theorem Src.row {w w' : World} {p g : Nat} {l : List Int} (h : Src w p l) (hg : w.grownBy w' (some g)) (hne : p < g) : Src w' p l := by
  obtain ⟨a, cap, i, h1, h2, h3, h4, h5, h6, h7, h8⟩ := h
  exact ⟨a, cap, i, grown_at hg h1 (by omega), h2, h3, h4, h5, rdc_row h6 h7 hg (by omega), h7, h8⟩
theorem src_set2 {w : World} {p g : Nat} {l : List Int} (h : Src w p l) (hg : p < g) (u v : Value) : Src ((w.setCell ⟨g, 0, none⟩ u).setCell ⟨g, 1, none⟩ v) p l :=
  (h.row (grown_set w g 0 u) hg).row (grown_set _ g 1 v) hg

/-- a write to a row of the call's own is no write to what was there -/
theorem grownBy_own {w0 w w' : World} {row r2 : Option Nat} (h : w0.grownBy w row) (hg : w.grownBy w' r2) (hr : ∀ k, r2 = some k → w0.heap.size ≤ k) : w0.grownBy w' row :=
  ⟨hg.os.trans h.os, hg.tape.trans h.tape, hg.output.trans h.output, Nat.le_trans h.size hg.size, fun k hk hne =>
    (hg.block k (Nat.lt_of_lt_of_le hk h.size) (fun e => by have := hr k e.symm; omega)).trans (h.block k hk hne)⟩
theorem src_own {w w' : World} {p : Nat} {r2 : Option Nat} {l : List Int} (h : Src w p l) (hg : w.grownBy w' r2) (hr : ∀ k, r2 = some k → p < k) : Src w' p l := by
  cases r2 with
  | some g => exact h.row hg (hr g rfl)
  | none =>
    have hlt := h.lt
    refine h.grown ⟨hg.os, hg.tape, hg.output, hg.size, fun k hk => hg.block k hk (by simp)⟩

def madeNames : List ByteArray := [⟨#[88, 45, 65]⟩, ⟨#[120, 45, 97]⟩, ⟨#[88, 45, 66]⟩, ⟨#[65, 99, 99, 101, 112, 116]⟩, ⟨#[67, 111, 110, 110, 101, 99, 116, 105, 111, 110]⟩, ⟨#[86, 105, 97]⟩, ⟨#[67, 111, 111, 107, 105, 101]⟩, ⟨#[84, 69]⟩, ⟨#[75, 101, 101, 112, 45, 65, 108, 105, 118, 101]⟩, ⟨#[88, 45, 70, 111, 114, 119, 97, 114, 100, 101, 100, 45, 70, 111, 114]⟩, ⟨#[68, 97, 116, 101]⟩, ⟨#[69, 84, 97, 103]⟩, ⟨#[85, 112, 103, 114, 97, 100, 101]⟩, ⟨#[88, 45, 83, 104, 97, 100, 111, 119]⟩]
def madeValues : List ByteArray := [⟨#[]⟩, ⟨#[49]⟩, ⟨#[97, 44, 32, 98]⟩, ⟨#[120, 45, 97]⟩, ⟨#[99, 108, 111, 115, 101]⟩, ⟨#[107, 101, 101, 112, 45, 97, 108, 105, 118, 101]⟩, ⟨#[88, 45, 66, 44, 32, 116, 101]⟩, ⟨#[99, 111, 104, 111, 114, 116, 61, 48, 49, 50, 51, 52, 53, 54, 55, 56, 57, 97, 98, 99, 100, 101, 102]⟩, ⟨#[107, 61, 118, 59, 32, 99, 111, 104, 111, 114, 116, 61, 48, 48, 48, 48, 48, 48, 48, 48, 48, 48, 48, 48, 48, 48, 102, 102]⟩, ⟨#[49, 46, 49, 32, 111, 116, 104, 101, 114]⟩, ⟨#[9, 63, 128, 59, 61]⟩]
theorem madeNames_ok : ∀ x ∈ madeNames, token (bl x) = true ∧ x.size ≤ 15 := by decide +kernel
theorem madeValues_ok : ∀ x ∈ madeValues, value (bl (trimB x)) = true ∧ x.size ≤ 28 := by decide +kernel

/-- what a made field is -/
def MadeF (f : Fld) : Prop := validF f = true ∧ f.name.size ≤ 15 ∧ f.val.size ≤ 28 ∧ f.name ∈ madeNames
theorem made_mk {n v : ByteArray} (hn : n ∈ madeNames) (hv : v ∈ madeValues) : MadeF ⟨n, trimB v⟩ :=
  ⟨by unfold validF; rw [(madeNames_ok n hn).1, (madeValues_ok v hv).1]; rfl, (madeNames_ok n hn).2, Nat.le_trans (trimB_size v) (madeValues_ok v hv).2, hn⟩

set_option maxHeartbeats 1000000 in
theorem sfield_calls (p : Nat) (l : List Int) (w : World) (h : Src w p l) :
    Calls Tryz.prog 76 #[.pointer (some ⟨p, 0, none⟩)] w fun e w' => (∃ f : Fld, e = .returned (.agg #[.string f.name, .string f.val]) ∧ MadeF f) ∧ w.grownBy w' (some p) ∧ Src w' p l := by
  have hlt := h.lt
  go_enter Tryz.func76, Tryz.ntmps76
  have hA0 : (w.alloc (.cells #[.string ⟨#[]⟩, .string ⟨#[]⟩] 45)).heap[w.heap.size]? = some (.cells #[.string ⟨#[]⟩, .string ⟨#[]⟩] 45) := heap_alloc_new w _
  have HA0 := Lib.hid hA0
  clear hA0
  go_wp2_with fail
  refine (of_calls p l _ madeNames (some ⟨w.heap.size + 1, 0, none⟩) 14 _ (h.grown (((Below.refl _ _).alloc (Nat.le_refl _) _).alloc (by simp) _)) rfl (by exact RdC_new' _ (strsV madeNames) _ _ _ (by simp)) (by simp [blk]; omega) (by decide) (by decide)).mono ?_
  rintro e w1 ⟨⟨n, hn, rfl⟩, hg1, hs1⟩
  have HG1 := grownBy_trans (grownBy_below (((Below.refl w.heap.size w).alloc (Nat.le_refl _) _).alloc (by simp) _) (some p)) hg1
  have HA1 := Lib.hid (grown_at (grownBy_trans (World.grownBy_alloc _ _ _) hg1) HA0.out (by omega))
  clear hg1
  have hlt1 := hs1.lt
  have hsz1 := HG1.size
  go_wp2_with fail
  refine (of_calls p l _ madeValues (some ⟨w1.heap.size, 0, none⟩) 11 _ (hs1.grown ((Below.refl _ _).alloc (Nat.le_refl _) _)) rfl (by exact RdC_new' _ (strsV madeValues) _ _ _ rfl) (by simp [blk]; omega) (by decide) (by decide)).mono ?_
  rintro e w2 ⟨⟨v, hv, rfl⟩, hg2, hs2⟩
  have hg2' := grownBy_trans (World.grownBy_alloc w1 _ (some p)) hg2
  have HG2 := grownBy_trans HG1 hg2'
  have hA2 := grown_at hg2' HA1.out (by omega)
  clear hg2 hg2' HA1 HA0
  have hmk := made_mk hn hv
  have hvs : v.size ≤ maxLen := by have := (madeValues_ok v hv).2; simp [maxLen]; omega
  have c0 : w2.cell? ⟨w.heap.size, 0, none⟩ = some (.string ⟨#[]⟩) := cell_of_row w2 _ 0 _ _ _ hA2
  have c1 : w2.cell? ⟨w.heap.size, 1, none⟩ = some (.string ⟨#[]⟩) := cell_of_row w2 _ 1 _ _ _ hA2
  have f0 : w2.frozen? ⟨w.heap.size, 0, none⟩ = false := frozen_of_row w2 _ 0 _ _ hA2
  have f1 : w2.frozen? ⟨w.heap.size, 1, none⟩ = false := frozen_of_row w2 _ 1 _ _ hA2
  clear hA2
  go_wp2_with fail
  refine (refTrim_calls v _ hvs).mono ?_
  rintro e w3 ⟨rfl, rfl⟩
  go_wp2
  refine bodyPost_ret (v := .agg #[.string n, .string (trimB v)]) (by simp [results, Tryz.results76, go_sem, c0, c1]) rfl ⟨⟨_, rfl, hmk⟩, ?_, ?_⟩
  · exact grown_set2 HG2 (Nat.le_refl _) _ _
  · exact src_set2 hs2 (by omega) _ _

theorem info_fld : (Tryz.prog.info? 45).map (fun i => (i.zero, i.size, i.bytes)) = some (some (.agg #[.string .empty, .string .empty]), 2, 32) := by kernel_rfl
/-- a slice of fields, made by the call: it is owned -/
def OwnF (B : Nat) (w : World) (v : Value) (l : List Fld) : Prop := w.ownsRow B 45 2 v l.length (fieldsV l)
theorem OwnF.rd {B : Nat} {w : World} {v : Value} {l : List Fld} (h : OwnF B w v l) : RdF w v l := Rd_owned h
theorem OwnF.snoc {B : Nat} {w : World} {v : Value} {l : List Fld} {f : Fld} (h : w.ownsRow B 45 2 v (l.length + 1) (fieldsV l ++ f.cells)) : OwnF B w v (l ++ [f]) := by
  have e1 : (l ++ [f]).length = l.length + 1 := by simp
  have e2 : fieldsV (l ++ [f]) = fieldsV l ++ f.cells := by simp [fieldsV]
  rw [OwnF, e1, e2]; exact h
theorem OwnF.below {B : Nat} {w w' : World} {v : Value} {l : List Fld} (h : OwnF B w v l) (hb : Below w.heap.size w w') : OwnF B w' v l := own_below h hb

set_option maxHeartbeats 1000000 in
theorem sfields_calls (p : Nat) (l : List Int) (m : Int) (w : World) (h : Src w p l) (hm : 0 ≤ m) (hm2 : m ≤ 1000000) :
    Calls Tryz.prog 52 #[.pointer (some ⟨p, 0, none⟩), .int .i64 m] w fun e w' => (∃ v, ∃ x : List Fld, e = .returned v ∧ (x.length : Int) ≤ m ∧ (∀ f ∈ x, MadeF f) ∧ OwnF w.heap.size w' v x) ∧ w.grownBy w' (some p) ∧ Src w' p l := by
  have hlt := h.lt
  go_enter Tryz.func52, Tryz.ntmps52
  go_wp2_with fail
  refine (next_calls p l (m + 1) _ h (by omega) (by omega)).mono ?_
  rintro e w1 ⟨⟨r, rfl, hr1, hr2⟩, hg, hs⟩
  have hsz := hg.size
  go_wp2
  go_loopw [5, 6] (fun v i wr => ∃ (x : List Fld) (q : Int), i = .int .i64 q ∧ 0 ≤ q ∧ q + (x.length : Int) = r ∧ (∀ f ∈ x, MadeF f) ∧ OwnF w.heap.size wr v x ∧ w.grownBy wr (some p) ∧ Src wr p l) (fun _ i _ => (intOf i).toNat)
  case atStart => exact ⟨[], r, rfl, hr1, by simp, by simp, World.ownsRow_nil _ _ _ _, hg, hs⟩
  case round =>
    clear hg hs hsz
    obtain ⟨x, q, rfl, hq, hqx, hx, hown, hg, hs⟩ := hrel
    obtain ⟨a0, c0, rfl, -, -, -⟩ := owned_slice hown
    have hsz := hg.size
    by_cases hq0 : 0 < q
    · have hroom : (x.length + 1) * 32 ≤ 140737488355328 := by omega
      have hroom2 : x.length + 1 ≤ maxLen := by simp [maxLen]; omega
      have hq6 : q ≤ 1000000 := by omega
      have HQ := Lib.hid hqx
      clear hqx
      go_wp2_with fail
      refine (sfield_calls p l _ hs).mono ?_
      rintro e w2 ⟨⟨f, rfl, hf⟩, hg2, hs2⟩
      have hown2 : OwnF w.heap.size w2 (.slice a0 x.length c0) x := hown.kept hg2 (by
        cases e : (Value.slice a0 x.length c0).ownBlock with
        | none => exact Or.inl rfl
        | some k => right; intro e2; have := (hown.lt k e).1; have := Option.some.inj e2; omega)
      have hg3 := grownBy_trans hg hg2
      have hsz2 := hg3.size
      clear hown hg hg2
      go_wp2_with (at_builtin; refine wpList_append_oneb rfl (.tmp 15) (.tmp 18) 23 rfl w.heap.size hsz2 45 (.agg #[.string .empty, .string .empty]) 2 32 Tryz.underlying23 info_fld rfl (by decide) a0 x.length c0 (fieldsV x) f.cells rfl (fld_one f) rfl hown2 rfl hroom hroom2 ?_; intro a1 c1 w3 hown3 hg4 hw4)
      have hg5 := grownBy_own hg3 hg4 (by intro k hk; exact (hown2.lt k (by rw [ownBlock_slice]; exact hk)).1)
      have hs3 := src_own hs2 hg4 (by intro k hk; have := (hown2.lt k (by rw [ownBlock_slice]; exact hk)).1; omega)
      have hx2 : ∀ g ∈ x ++ [f], MadeF g := by
        intro g hgm
        rcases List.mem_append.1 hgm with h | h
        · exact hx g h
        · rw [List.mem_singleton] at h; rw [h]; exact hf
      have hq := HQ.out
      go_roundw
      case rel => exact ⟨x ++ [f], q - 1, by go_num, by omega, by simp; omega, hx2, OwnF.snoc hown3, hg5, hs3⟩
      case measure => simp [intOf]; omega
    · have hq1 : q = 0 := by omega
      have hxl : (x.length : Int) ≤ m := by omega
      subst hq1
      clear hqx hq0
      go_wp2
      go_ret
      exact ⟨⟨_, x, rfl, hxl, hx, hown⟩, hg, hs⟩

theorem src_new (w : World) (a : Option Addr) (l : List Int) (cap : Nat) (h : RdC w a (intsV l)) (h3 : l.length ≤ cap) (h4 : cap ≤ maxLen) (h5 : a = none → cap = 0) (h8 : ∀ x ∈ l, In64 x) :
    Src (w.alloc (.cells #[.slice a l.length cap, .int .i64 0] 60)) w.heap.size l := by
  refine ⟨a, cap, 0, Array.getElem?_push_size, Nat.zero_le _, h3, h4, h5, h.below ((Below.refl _ _).alloc (Nat.le_refl _) _), ?_, h8⟩
  cases l with
  | nil => exact Or.inl rfl
  | cons x l =>
    right
    intro b hb
    obtain ⟨b', off, ha, hc⟩ := h 0 (by simp [intsV])
    rw [ha] at hb
    have := World.block_lt_of_cell? w _ hc
    simp [blk] at hb
    simp at this
    omega

theorem below_new {w w' : World} {o : Obj} (hg : (w.alloc o).grownBy w' (some w.heap.size)) : Below w.heap.size w w' :=
  ⟨hg.os, hg.tape, hg.output, by have := hg.size; simp at this; omega, fun k hk => (hg.block k (by simp; omega) (by intro h; injection h with h; omega)).trans (Array.getElem?_push_lt hk ▸ (Array.getElem?_eq_getElem hk).symm)⟩

end Go.Proofs.YtfmokccoilgpmaaGreatDoor
