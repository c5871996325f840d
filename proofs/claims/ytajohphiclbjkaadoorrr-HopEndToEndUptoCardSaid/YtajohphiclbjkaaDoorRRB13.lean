/- Backward of package hop for a GET with status 200. -/
import Derived.Test.YtajohphiclbjkaaDoorRRX13
namespace Go.Proofs.YtajohphiclbjkaaDoorRR
open Go.RowKit Go.Own
set_option linter.unusedVariables false
set_option maxHeartbeats 2000000

theorem fin5h {P : Program} {fn : Func} {R : Ending → World → Prop} {a : Act} {w1 : World} {g : Nat} {x0 x1 x2 x3 x4 y0 y1 y2 y3 y4 : Value} {T : TypeId} (mk : Value → Value) (h : w1.heap[g]? = some (.cells #[x0, x1, x2, x3, x4] T))
    (hres : ∀ w2 : World, w2.cell? ⟨g, 0, none⟩ = some y0 → w2.cell? ⟨g, 1, none⟩ = some y1 → w2.cell? ⟨g, 2, none⟩ = some y2 → w2.cell? ⟨g, 3, none⟩ = some y3 → w2.cell? ⟨g, 4, none⟩ = some y4 → (results fn a.tmps).run P w2 = .ok (mk (.agg #[y0, y1, y2, y3, y4])) w2) (hd : a.defers = []) (hR : ∀ w2 : World, w1.grownBy w2 (some g) → R (.returned (mk (.agg #[y0, y1, y2, y3, y4]))) w2) :
    bodyPost P fn R .ret a (((((w1.setCell ⟨g, 0, none⟩ y0).setCell ⟨g, 1, none⟩ y1).setCell ⟨g, 2, none⟩ y2).setCell ⟨g, 3, none⟩ y3).setCell ⟨g, 4, none⟩ y4) := by
  have h0 := h
  have h1 : (w1.setCell ⟨g, 0, none⟩ y0).heap[g]? = some (.cells #[y0, x1, x2, x3, x4] T) := (heap_setCell_same w1 g 0 _ _ _ h0).trans (by simp)
  have h2 : ((w1.setCell ⟨g, 0, none⟩ y0).setCell ⟨g, 1, none⟩ y1).heap[g]? = some (.cells #[y0, y1, x2, x3, x4] T) := (heap_setCell_same (w1.setCell ⟨g, 0, none⟩ y0) g 1 _ _ _ h1).trans (by simp)
  have h3 : (((w1.setCell ⟨g, 0, none⟩ y0).setCell ⟨g, 1, none⟩ y1).setCell ⟨g, 2, none⟩ y2).heap[g]? = some (.cells #[y0, y1, y2, x3, x4] T) := (heap_setCell_same ((w1.setCell ⟨g, 0, none⟩ y0).setCell ⟨g, 1, none⟩ y1) g 2 _ _ _ h2).trans (by simp)
  have h4 : ((((w1.setCell ⟨g, 0, none⟩ y0).setCell ⟨g, 1, none⟩ y1).setCell ⟨g, 2, none⟩ y2).setCell ⟨g, 3, none⟩ y3).heap[g]? = some (.cells #[y0, y1, y2, y3, x4] T) := (heap_setCell_same (((w1.setCell ⟨g, 0, none⟩ y0).setCell ⟨g, 1, none⟩ y1).setCell ⟨g, 2, none⟩ y2) g 3 _ _ _ h3).trans (by simp)
  have h5 : (((((w1.setCell ⟨g, 0, none⟩ y0).setCell ⟨g, 1, none⟩ y1).setCell ⟨g, 2, none⟩ y2).setCell ⟨g, 3, none⟩ y3).setCell ⟨g, 4, none⟩ y4).heap[g]? = some (.cells #[y0, y1, y2, y3, y4] T) := (heap_setCell_same ((((w1.setCell ⟨g, 0, none⟩ y0).setCell ⟨g, 1, none⟩ y1).setCell ⟨g, 2, none⟩ y2).setCell ⟨g, 3, none⟩ y3) g 4 _ _ _ h4).trans (by simp)
  have hb : w1.grownBy (((((w1.setCell ⟨g, 0, none⟩ y0).setCell ⟨g, 1, none⟩ y1).setCell ⟨g, 2, none⟩ y2).setCell ⟨g, 3, none⟩ y3).setCell ⟨g, 4, none⟩ y4) (some g) :=
    grownBy_trans (grownBy_trans (grownBy_trans (grownBy_trans (grown_set _ g 0 _) (grown_set _ g 1 _)) (grown_set _ g 2 _)) (grown_set _ g 3 _)) (grown_set _ g 4 _)
  have hh : (((((w1.setCell ⟨g, 0, none⟩ y0).setCell ⟨g, 1, none⟩ y1).setCell ⟨g, 2, none⟩ y2).setCell ⟨g, 3, none⟩ y3).setCell ⟨g, 4, none⟩ y4).heap[g]? = some (.cells #[y0, y1, y2, y3, y4] T) := h5
  generalize (((((w1.setCell ⟨g, 0, none⟩ y0).setCell ⟨g, 1, none⟩ y1).setCell ⟨g, 2, none⟩ y2).setCell ⟨g, 3, none⟩ y3).setCell ⟨g, 4, none⟩ y4) = w2 at hh hb ⊢
  obtain ⟨⟨c0, c1, c2, c3, c4⟩, -, -⟩ := row5 hh
  exact bodyPost_ret (hres w2 c0 c1 c2 c3 c4) hd (hR w2 hb)
theorem set5b {w1 : World} {g : Nat} {x0 x1 x2 x3 x4 : Value} {T : TypeId} (y2 y3 y4 : Value) (h : w1.heap[g]? = some (.cells #[x0, x1, x2, x3, x4] T)) :
    (((w1.setCell ⟨g, 3, none⟩ y3).setCell ⟨g, 2, none⟩ y2).setCell ⟨g, 4, none⟩ y4).heap[g]? = some (.cells #[x0, x1, y2, y3, y4] T) ∧ w1.grownBy (((w1.setCell ⟨g, 3, none⟩ y3).setCell ⟨g, 2, none⟩ y2).setCell ⟨g, 4, none⟩ y4) (some g) ∧
    ((w1.setCell ⟨g, 3, none⟩ y3).cell? ⟨g, 2, none⟩ = some x2 ∧ (w1.setCell ⟨g, 3, none⟩ y3).frozen? ⟨g, 2, none⟩ = false) ∧ (((w1.setCell ⟨g, 3, none⟩ y3).setCell ⟨g, 2, none⟩ y2).cell? ⟨g, 4, none⟩ = some x4 ∧ ((w1.setCell ⟨g, 3, none⟩ y3).setCell ⟨g, 2, none⟩ y2).frozen? ⟨g, 4, none⟩ = false) := by
  have e1 : (w1.setCell ⟨g, 3, none⟩ y3).heap[g]? = some (.cells #[x0, x1, x2, y3, x4] T) := (heap_setCell_same w1 g 3 _ _ _ h).trans (by simp)
  have e2 : ((w1.setCell ⟨g, 3, none⟩ y3).setCell ⟨g, 2, none⟩ y2).heap[g]? = some (.cells #[x0, x1, y2, y3, x4] T) := (heap_setCell_same _ g 2 _ _ _ e1).trans (by simp)
  have e3 : (((w1.setCell ⟨g, 3, none⟩ y3).setCell ⟨g, 2, none⟩ y2).setCell ⟨g, 4, none⟩ y4).heap[g]? = some (.cells #[x0, x1, y2, y3, y4] T) := (heap_setCell_same _ g 4 _ _ _ e2).trans (by simp)
  obtain ⟨⟨-, -, q2, -, -⟩, ⟨-, -, f2, -, -⟩, -⟩ := row5 e1
  obtain ⟨⟨-, -, -, -, q4⟩, ⟨-, -, -, -, f4⟩, -⟩ := row5 e2
  exact ⟨e3, grownBy_trans (grownBy_trans (grown_set _ g 3 _) (grown_set _ g 2 _)) (grown_set _ g 4 _), ⟨q2, f2⟩, q4, f4⟩

set_option maxRecDepth 100000 in
theorem backward_calls (va : Value) (x : List Fld) (w : World) (hE : EnvP w) (Hf : RdF w va x) (hx : fsize x ≤ 1500000) :
    Calls Tryd.prog 40 #[.string ⟨#[71, 69, 84]⟩, .agg #[.int .i64 200, .string .empty, .int .i64 1, va, .slice none 0 0], .int .i64 3, .slice none 0 0] w fun e w' => (∃ v1 v2, e = .returned (.agg #[.int .i64 200, .string .empty, .int .i64 1, v1, v2]) ∧ OwnF w.heap.size w' v1 (viaS (stripS x) ++ [lenF 3]) ∧ OwnY w.heap.size w' v2 []) ∧ Below w.heap.size w w' := by
  have CS := Lib.hid (fun w hE Ha => strip_calls va x w hE Ha (by omega))
  have hsz := strip_fsize x
  have CV := Lib.hid (fun v w hE Ha => via_calls v (stripS x) w hE Ha (by omega))
  have hu := joined_fsize (stripS x) sVia sSelf
  have e2 : sVia.size = 3 := rfl
  have e3 : sSelf.size = 10 := rfl
  have hul := fsize_length (viaS (stripS x))
  have hu2 : (viaS (stripS x)).length ≤ 100000000 := by
    have : fsize (viaS (stripS x)) = fsize (joinedS (stripS x) sVia sSelf) := rfl
    omega
  have CD := Lib.hid (fun w hE => decimal_calls 3 3 w hE rfl (by omega))
  have e4 : bs (digs 10 3) = (⟨#[51]⟩ : ByteArray) := by decide +kernel
  have e5 : lenF 3 = ⟨sLen, ⟨#[51]⟩⟩ := by unfold lenF; rw [e4]
  rw [e4] at CD
  rw [e5]
  clear hsz hu e2 e3 hul e4 e5
  generalize viaS (stripS x) = V at CV hu2 ⊢
  generalize stripS x = SX at CS CV
  have H2 := Lib.hid (heap_twoH w (.cells #[.int .i64 200, .string .empty, .int .i64 1, va, .slice none 0 0] 43) (.cells #[.int .i64 0, .string .empty, .int .i64 0, .slice none 0 0, .slice none 0 0] 43))
  have HB0 := ((Below.refl w.heap.size w).alloc (Nat.le_refl _) (.cells #[.int .i64 200, .string .empty, .int .i64 1, va, .slice none 0 0] 43)).alloc (by simp) (.cells #[.int .i64 0, .string .empty, .int .i64 0, .slice none 0 0, .slice none 0 0] 43)
  have hz0 : ((w.alloc (.cells #[.int .i64 200, .string .empty, .int .i64 1, va, .slice none 0 0] 43)).alloc (.cells #[.int .i64 0, .string .empty, .int .i64 0, .slice none 0 0, .slice none 0 0] 43)).heap.size = w.heap.size + 2 := by simp
  go_enter Tryd.func40, Tryd.ntmps40
  go_wp2_with fail
  refine (CD.out _ (hE.below HB0)).mono ?_
  rintro e w1 ⟨rfl, hb1⟩
  have HB1 := Below.self_trans HB0 hb1
  have R1 := row_below H2.out.1 hb1
  have R2 := row_below H2.out.2 hb1
  have HZ : w.heap.size + 2 ≤ w1.heap.size := by have := hb1.size; omega
  obtain ⟨⟨c0, -, -, c3, -⟩, -, -⟩ := row5 R1
  clear hb1 HB0 H2 hz0 CD
  go_wp2_with fail
  refine (CS.out _ (hE.below HB1).env (Hf.below HB1)).mono ?_
  rintro e w2 ⟨⟨v2, rfl, hown⟩, hb⟩
  have G2 := hown.rd
  have HB2 := Below.self_trans HB1 hb
  have R3 := row_below R1 hb
  have R4 := row_below R2 hb
  have HZ2 := Nat.le_trans HZ hb.size
  clear hown hb HB1 R1 R2 HZ CS c0 c3
  go_wp2_with fail
  refine (CV.out _ _ (hE.below HB2).env G2).mono ?_
  rintro e w3 ⟨⟨v3, rfl, hown⟩, hb⟩
  have G3 := hown.rd
  have HB3 := Below.self_trans HB2 hb
  have R1 := row_below R3 hb
  have R2 := row_below R4 hb
  have HZ3 := Nat.le_trans HZ2 hb.size
  clear hown hb HB2 R3 R4 HZ2 CV G2
  go_wp2_with fail
  refine (with_calls _ _ V [] _ G3 (RdF_nil _) hu2 (by simp)).mono ?_
  rintro e w4 ⟨⟨v4, rfl, hown⟩, hb⟩
  rw [List.append_nil] at hown
  have HB4 := Below.self_trans HB3 hb
  have R3 := row_below R1 hb
  have R4 := row_below R2 hb
  have HZ4 := Nat.le_trans HZ3 hb.size
  have hown4 : OwnF (w.heap.size + 2) w4 v4 V := hown.base HZ3
  obtain ⟨a4, k4, rfl, -, -, -⟩ := owned_slice hown4
  clear hown hb HB3 R1 R2 HZ3 G3
  have hroom : (V.length + 1) * 32 ≤ 140737488355328 := by omega
  have hroom2 : V.length + 1 ≤ maxLen := by simp [maxLen]; omega
  have hlow : ∀ k, blk a4 = some k → w.heap.size + 2 ≤ k := fun k hk => (hown4.lt k (by rw [ownBlock_slice]; exact hk)).1
  have HH := Lib.hid (show ∀ w5, w4.grownBy w5 (blk a4) → w5.heap[w.heap.size]? = some (.cells #[.int .i64 200, .string .empty, .int .i64 1, va, .slice none 0 0] 43) ∧ w5.heap[w.heap.size + 1]? = some (.cells #[.int .i64 0, .string .empty, .int .i64 0, .slice none 0 0, .slice none 0 0] 43) ∧ Below w.heap.size w w5 ∧ w.heap.size + 2 ≤ w5.heap.size from fun w5 hg =>
    ⟨(hg.block _ (Array.getElem?_eq_some_iff.1 R3).1 (by intro e; have := hlow _ e.symm; omega)).trans R3, (hg.block _ (Array.getElem?_eq_some_iff.1 R4).1 (by intro e; have := hlow _ e.symm; omega)).trans R4, HB4.grown hg HB4.size (fun k hk => by have := hlow k hk; omega), Nat.le_trans HZ4 hg.size⟩)
  clear R3 R4 HB4 hlow
  go_wp2_with (at_builtin; refine wpList_append_oneb rfl (.tmp 39) (.tmp 42) 24 rfl (w.heap.size + 2) HZ4 62 (.agg #[.string .empty, .string .empty]) 2 32 Tryd.underlying24 info_fld rfl (by decide) a4 V.length k4 (fieldsV V) (Fld.cells ⟨sLen, ⟨#[51]⟩⟩) rfl (str2_one _ _) rfl hown4 rfl hroom hroom2 ?_; intro a5 c5 w5 hown5 hg5 hw5; obtain ⟨R5, R6, HB5, HZ5⟩ := HH.out w5 hg5; obtain ⟨⟨-, -, -, -, q4⟩, -, -⟩ := row5 R5)
  have HO := Lib.hid (OwnF.snoc (f := ⟨sLen, ⟨#[51]⟩⟩) hown5)
  clear hown5 hg5 hw5 hown4 HH HZ4
  refine (cloneY_calls _ [] _ (RdB_nil _) (by simp)).mono ?_
  rintro e w6 ⟨⟨v6, rfl, hoy⟩, hb⟩
  obtain ⟨a6, c6, rfl, -, -, -⟩ := owned_slice hoy
  have HB6 := Below.self_trans HB5 hb
  have R1 := row_below R5 hb
  have R2 := row_below R6 hb
  have HO6 := OwnF.below HO.out hb
  have HY6 : OwnY (w.heap.size + 2) w6 _ [] := hoy.base HZ5
  clear hb hoy HB5 R5 R6 HO HZ5 q4
  obtain ⟨⟨-, -, -, q3, -⟩, ⟨-, -, -, f3, -⟩, -⟩ := row5 R1
  obtain ⟨e1, e2, ⟨q2, f2⟩, q4, f4⟩ := set5b (.int .i64 1) (.slice a5 (V.length + 1) c5) (.slice a6 0 c6) R1
  have e3 := (e2.block _ (Array.getElem?_eq_some_iff.1 R2).1 (by simp)).trans R2
  have HW := Lib.hid (show _ ∧ _ ∧ OwnF (w.heap.size + 2) _ (.slice a5 (V.length + 1) c5) (V ++ [⟨sLen, ⟨#[51]⟩⟩]) ∧ OwnY (w.heap.size + 2) _ (.slice a6 0 c6) [] ∧ Below w.heap.size w _ from ⟨e1, e3, own_src HO6 e2 (by omega), own_src HY6 e2 (by omega), below_src HB6 e2 (by omega)⟩)
  clear e1 e2 e3 HO6 HY6 HB6 R1 R2
  go_upto_region 10 with fail
  generalize ((w6.setCell ⟨w.heap.size, 3, none⟩ (.slice a5 (V.length + 1) c5)).setCell ⟨w.heap.size, 2, none⟩ (.int .i64 1)).setCell ⟨w.heap.size, 4, none⟩ (.slice a6 0 c6) = w7 at HW ⊢
  clear q2 q3 f2 f3 q4 f4
  obtain ⟨r1, r2, hown, hoy, hbw⟩ := HW.out
  obtain ⟨⟨c10, c11, c12, c13, c14⟩, -, -⟩ := row5 r1
  obtain ⟨⟨d10, d11, d12, d13, d14⟩, ⟨f10, f11, f12, f13, f14⟩, -⟩ := row5 r2
  have R2 := Lib.hid r2
  have HO := Lib.hid hown
  have HY := Lib.hid hoy
  have HB := Lib.hid hbw
  clear r1 r2 hbw hown hoy HW
  go_wp2_with fail
  exact fin5h id R2.out (fun w2 c0 c1 c2 c3 c4 => by simp [results, Tryd.results40, go_sem, c0, c1, c2, c3, c4]) rfl fun w7 hg => ⟨⟨_, _, rfl, OwnF.base (own_src HO.out hg (by omega)) (by omega), OwnY.base (own_src HY.out hg (by omega)) (by omega)⟩, below_src HB.out hg (by omega)⟩
end Go.Proofs.YtajohphiclbjkaaDoorRR
