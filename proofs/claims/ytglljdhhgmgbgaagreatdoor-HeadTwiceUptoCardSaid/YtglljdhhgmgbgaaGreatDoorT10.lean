/- The core of HeadTwice. -/
import Derived.Test.YtglljdhhgmgbgaaGreatDoorP10
namespace Go.Proofs.YtglljdhhgmgbgaaGreatDoor
open Go.RowKit Go.Own
set_option linter.unusedVariables false
set_option maxHeartbeats 4000000

theorem fieldsV_str (x : List Fld) : ∀ u ∈ fieldsV x, ∃ s, u = .string s := by
  intro u hu
  obtain ⟨f, -, hf⟩ := List.mem_flatMap.1 hu
  simp only [Fld.cells, List.mem_cons, List.not_mem_nil, or_false] at hf
  rcases hf with rfl | rfl <;> exact ⟨_, rfl⟩
/-- fields lie apart from a Source -/
theorem rdf_src {w w' : World} {p : Nat} {l : List Int} {v : Value} {x : List Fld} (hs : Src w p l) (h : RdF w v x) (hg : w.grownBy w' (some p)) : RdF w' v x := by
  obtain ⟨a, cap, rfl, h1, h2, h3, h4⟩ := h
  refine ⟨a, cap, rfl, h1, h2, h3, fun k hk => ?_⟩
  obtain ⟨b, off, rfl, hc⟩ := h4 k hk
  refine ⟨b, off, rfl, hg.cell hc ?_⟩
  intro e
  have e := Option.some.inj e
  simp only at e
  subst e
  obtain ⟨sa, sc, si, hrow, -⟩ := hs
  obtain ⟨s, hsv⟩ := fieldsV_str x _ (List.getElem_mem hk)
  rw [hsv, cell_of_row w b (off + k) _ _ _ hrow] at hc
  match off + k, hc with
  | 0, hc => simp at hc
  | 1, hc => simp at hc
  | j + 2, hc => simp at hc
/-- what lies below a block stays while that block is written -/
theorem rdf_above {w1 W W' : World} {g : Nat} {v : Value} {x : List Fld} (h : RdF w1 v x) (hb : Below w1.heap.size w1 W) (hg : W.grownBy W' (some g)) (hgt : w1.heap.size ≤ g) : RdF W' v x := by
  obtain ⟨a, cap, rfl, h1, h2, h3, h4⟩ := h
  refine ⟨a, cap, rfl, h1, h2, h3, fun k hk => ?_⟩
  obtain ⟨b, off, rfl, hc⟩ := h4 k hk
  have hlt := World.block_lt_of_cell? w1 _ hc
  simp only at hlt
  exact ⟨b, off, rfl, hg.cell (cell_below hb hc) (by intro e; have := Option.some.inj e; simp only at this; omega)⟩
/-- where HeadTwice stands once the request is read back -/
def TwiceAt (w W : World) (g1 g2 p : Nat) (l : List Int) (m t : ByteArray) (n : Int) (vf vx : Value) (x : List Fld) : Prop :=
  W.heap[g1]? = some (.cells #[.string m, .string t, .int .i64 n, vf, .bool false, .slice none 0 0] 35) ∧
  W.heap[g2]? = some (.cells #[.string m, .string t, .int .i64 n, vx, .bool false, .slice none 0 0] 35) ∧
  Below w.heap.size w W ∧ RdF W vf x ∧ RdF W vx x ∧ Src W p l
theorem twice_put {w w1 W3 : World} {g2 p B : Nat} {l : List Int} {m t : ByteArray} {n : Int} {vf vb vx : Value} {fr : Bool} {x : List Fld}
    (k1 : W3.heap[w1.heap.size]? = some (.cells #[.string m, .string t, .int .i64 n, vf, .bool fr, vb] 35)) (k2 : W3.heap[g2]? = some (.cells #[.string m, .string t, .int .i64 n, vx, .bool false, .slice none 0 0] 35))
    (hne : w1.heap.size < g2) (hB : Below w.heap.size w W3) (hw : w.heap.size ≤ w1.heap.size) (hf : RdF w1 vf x) (hb13 : Below w1.heap.size w1 W3) (hx : OwnF B W3 vx x) (hBg : w1.heap.size < B) (hs : Src W3 p l) (hp : p < w1.heap.size) :
    TwiceAt w ((W3.setCell ⟨w1.heap.size, 5, none⟩ (.slice none 0 0)).setCell ⟨w1.heap.size, 4, none⟩ (.bool false)) w1.heap.size g2 p l m t n vf vx x := by
  have e1 : (W3.setCell ⟨w1.heap.size, 5, none⟩ (.slice none 0 0)).heap[w1.heap.size]? = some (.cells #[.string m, .string t, .int .i64 n, vf, .bool fr, .slice none 0 0] 35) := (heap_setCell_same W3 _ 5 _ _ _ k1).trans (by simp)
  have e2 : ((W3.setCell ⟨w1.heap.size, 5, none⟩ (.slice none 0 0)).setCell ⟨w1.heap.size, 4, none⟩ (.bool false)).heap[w1.heap.size]? = some (.cells #[.string m, .string t, .int .i64 n, vf, .bool false, .slice none 0 0] 35) := (heap_setCell_same _ _ 4 _ _ _ e1).trans (by simp)
  have g := grownBy_trans (grown_set W3 w1.heap.size 5 (.slice none 0 0)) (grown_set _ w1.heap.size 4 (.bool false))
  have HB : Below w.heap.size w ((W3.setCell ⟨w1.heap.size, 5, none⟩ (.slice none 0 0)).setCell ⟨w1.heap.size, 4, none⟩ (.bool false)) := (hB.setCell hw _).setCell hw _
  have q2 := (g.block g2 (Array.getElem?_eq_some_iff.1 k2).1 (by intro e; have := Option.some.inj e; omega)).trans k2
  exact ⟨e2, q2, HB, rdf_above hf hb13 g (Nat.le_refl _), OwnF.rd (own_src hx g hBg), src_own hs g (fun k hk => by have := Option.some.inj hk; omega)⟩
theorem hosts_made {x : List Fld} {k : Nat} (h : MadeX x k) (n : Int) : hostsBad x n = false := by
  have : (valuesS x hHost).length = 1 := by
    unfold valuesS
    rw [List.length_map]
    have e : (x.filter fun f => foldB f.name hHost) = x.filter fun f => !noHost f := by
      refine List.filter_congr fun f _ => ?_
      show _ = !(!foldB f.name nameHost)
      rw [Bool.not_not]; rfl
    rw [e]; exact h.2.2
  unfold hostsBad
  rw [this]; rfl
theorem reqB_made {m t : ByteArray} {n : Int} {x : List Fld} {fr : Bool} {b : List UInt8} (h : MadeR m t n x fr b) : reqB (headB (fmtReq m t n) x) = ((m, t, n, x), 0) := by
  have h6 := h.2.1.2.1
  rw [reqB_head (madeR_ok h).1 (made_valid h.2.1.1), if_neg (by omega), hosts_made h.2.1]; rfl
theorem repB_made {st n : Int} {rs : ByteArray} {y : List Fld} (h : okSt st rs n = true) (hy : ∀ f ∈ y, MadeF f) (hl : (y.length : Int) ≤ 5) :
    repB (headB (fmtSt st rs n) y) = ((st, rs, n, y), 0) ∧ 0 < (headB (fmtSt st rs n) y).length := by
  have hv := made_valid (fun f hf => madeF_Q (hy f hf))
  refine ⟨by rw [repB_head h hv, if_neg (by omega)], headB_ne (fmtSt_clean h).2 hv⟩
theorem headB_no2 {st n : Int} {rs : ByteArray} {y : List Fld} (h : okSt st rs n = false) : headB (fmtSt st rs n) y = [] := by
  rw [fmtSt_no h]
  exact headB_no (Or.inl (by decide +kernel))
theorem repB_nil : repB [] = ((0, .empty, 0, []), 2) := repB_none linesS_nil

set_option maxRecDepth 100000 in
theorem headTwice_core (vl : Value) (l : List Int) (status minor : Int) (reason : ByteArray) (w : World) (hE : EnvP w) (Hl : RdI w vl l) (hst : In64 status) (hmi : In64 minor) (h1 : reason.size ≤ 1048576) :
    Calls Tryz.prog 7 #[vl, .int .i64 status, .int .i64 minor, .string reason] w fun e w' => e = .returned (.bool true) ∧ Below w.heap.size w w' := by
  obtain ⟨⟨al, cl, rfl, h11, h12, h13, hc⟩, hin⟩ := Hl
  have PA := Lib.hid (fun w hE => awake10_calls w hE)
  have HS := Lib.hid (src_new w al l cl hc h11 h12 h13 hin)
  clear hc hin h13
  go_enter Tryz.func7, Tryz.ntmps7
  go_wp2_with fail
  refine (request_calls w.heap.size l _ HS.out).mono ?_
  rintro e w1 ⟨⟨m, t, n, vf, x, fr, vb, b, rfl, hm, hof, hob⟩, hg, hs1⟩
  have hb1 := below_new hg
  obtain ⟨hok, hm4, ht8⟩ := madeR_ok hm
  have hfx := made_fsz hm.2.1.1 hm.2.1.2.1
  have hsz := fmtReq_size m t n
  have HRB := Lib.hid (reqB_made hm)
  have HLN := headB_length (fmtReq m t n) x
  have hz0 : (headB (fmtReq m t n) x).length ≤ 1000 := by unfold fsize at hfx; omega
  have hx6 := hm.2.1.2.1
  obtain ⟨af, cf, rfl, -, -, -⟩ := owned_slice hof
  obtain ⟨ab, cb, rfl, -, -, -⟩ := owned_slice hob
  have HX := box_one (w1 := w1) (.cells #[.string m, .string t, .int .i64 n, .slice af x.length cf, .bool fr, .slice ab b.length cb] 35)
  have HG1 := Lib.hid (heap_alloc_new w1 (.cells #[.string m, .string t, .int .i64 n, .slice af x.length cf, .bool fr, .slice ab b.length cb] 35))
  have HB1 := Lib.hid (Below.self_trans hb1 HX)
  have HF1 := Lib.hid (hof.rd.below HX)
  have HF0 := Lib.hid hof.rd
  have HBW := Lib.hid HX
  have HS1 := Lib.hid (hs1.grown HX)
  have hlt1 := hs1.lt
  have CF := Lib.hid (fun w hE H => hfmtReq_calls m t n (.slice af x.length cf) fr (.slice ab b.length cb) x w hE (by omega) (by omega) H (by omega))
  have CP := Lib.hid (fun w v hE H => hreq_calls v (headB (fmtReq m t n) x) w hE H (by omega))
  rw [HRB.out] at CP
  generalize headB (fmtReq m t n) x = H at CF CP
  clear hg hm hof hob HS hs1 hb1 HX hok hsz HLN HRB hz0 hm4 ht8 hfx
  go_wp2_with fail
  refine (CF.out _ (hE.below HB1.out) HF1.out).mono ?_
  rintro e w2 ⟨⟨v2, rfl, hr2⟩, hb2⟩
  obtain ⟨a2, c2, rfl, -, -, -, -⟩ := id hr2
  have HG1 := Lib.hid (row_below HG1.out hb2)
  have HB2 := Lib.hid (Below.self_trans HB1.out hb2)
  have HBW := Lib.hid (Below.self_trans HBW.out hb2)
  have HS2 := Lib.hid (HS1.out.grown hb2)
  have HR2 := Lib.hid hr2
  clear hr2 hb2 HB1 HF1 HS1 CF
  go_wp2_with fail
  refine (CP.out _ _ (hE.env.below HB2.out) HR2.out).mono ?_
  rintro e w3 ⟨⟨vx, rfl, hx⟩, hb3⟩
  obtain ⟨ax, cx, rfl, -, -, -⟩ := owned_slice hx
  simp only
  have HX := box_one (w1 := w3) (.cells #[.string m, .string t, .int .i64 n, .slice ax x.length cx, .bool false, .slice none 0 0] 35)
  have hg1 := row_below (row_below HG1.out hb3) HX
  have hg2 := heap_alloc_new w3 (.cells #[.string m, .string t, .int .i64 n, .slice ax x.length cx, .bool false, .slice none 0 0] 35)
  have hlt2 := (Array.getElem?_eq_some_iff.1 HG1.out).1
  have hlt3 := (Array.getElem?_eq_some_iff.1 (row_below HG1.out hb3)).1
  have hB3 := Below.self_trans (Below.self_trans HB2.out hb3) HX
  have hX3 : OwnF w2.heap.size (w3.alloc (.cells #[.string m, .string t, .int .i64 n, .slice ax x.length cx, .bool false, .slice none 0 0] 35)) (.slice ax x.length cx) x := OwnF.below hx HX
  have hS3 := (HS2.out.grown hb3).grown HX
  have hb13 := Below.self_trans (Below.self_trans HBW.out hb3) HX
  obtain ⟨⟨c0, c1, c2, c3, c4, c5⟩, ⟨f0, f1, f2, f3, f4, f5⟩, -⟩ := row6 hg1
  clear hx hb3 HB2 HS2 HX HG1 HR2 CP HBW
  go_upto_region 4 with fail
  have hlt3' : w1.heap.size < w3.heap.size := hlt3
  generalize hg : w3.heap.size = g2 at hg2 hlt3' ⊢
  clear hlt3 hg
  generalize w3.alloc (.cells #[.string m, .string t, .int .i64 n, .slice ax x.length cx, .bool false, .slice none 0 0] 35) = W3 at hg1 hg2 hB3 hX3 hS3 hb13 c0 c1 c2 c3 c4 c5 f0 f1 f2 f3 f4 f5 ⊢
  have hg1b : (W3.setCell ⟨w1.heap.size, 5, none⟩ (.slice none 0 0)).heap[w1.heap.size]? = some (.cells #[.string m, .string t, .int .i64 n, .slice af x.length cf, .bool fr, .slice none 0 0] 35) := (heap_setCell_same _ _ 5 _ _ _ hg1).trans (by simp)
  obtain ⟨⟨-, -, -, -, d4, -⟩, ⟨-, -, -, -, e4, -⟩, -⟩ := row6 hg1b
  have HTW := Lib.hid (twice_put hg1 hg2 hlt3' hB3 (Nat.le_of_lt hlt1) HF0.out hb13 hX3 hlt2 hS3 hlt1)
  clear hg1b hg1 hg2 hB3 hX3 hS3 hb13 HF0
  go_wp2_with fail
  refine (within_calls status 500 _ hst (by omega) (by omega)).mono ?_
  rintro e w4 ⟨rfl, rfl⟩
  obtain ⟨b1, b2⟩ := within_bd status 500 (by omega)
  generalize within status 500 = st0 at b1 b2 ⊢
  clear c0 c1 c2 c3 c4 c5 f0 f1 f2 f3 f4 f5 d4 e4
  generalize (W3.setCell ⟨w1.heap.size, 5, none⟩ (.slice none 0 0)).setCell ⟨w1.heap.size, 4, none⟩ (.bool false) = W4 at HTW ⊢
  go_wp2_with fail
  obtain ⟨k1, k2, hB4, hF4, hX4, hS4⟩ := HTW.out
  refine (sfields_calls _ l 5 _ hS4 (by omega) (by omega)).mono ?_
  rintro e w5 ⟨⟨vy, y, rfl, hy5, hy, hof⟩, hg5, hs5⟩
  have K1 := Lib.hid (grown_at hg5 k1 (by omega))
  have K2 := Lib.hid (grown_at hg5 k2 (by omega))
  have hb5 := below_src hB4 hg5 (Nat.le_refl _)
  have HF5 := Lib.hid (rdf_src hS4 hF4 hg5)
  have HX5 := Lib.hid (rdf_src hS4 hX4 hg5)
  have hfy := made_fsz (fun f hf => madeF_Q (hy f hf)) (show y.length ≤ 5 by omega)
  obtain ⟨ay, cy, rfl, -, -, -⟩ := owned_slice hof
  have HY5 := Lib.hid (OwnF.rd hof)
  clear HTW k1 k2 hB4 hF4 hX4 hS4 hg5 hs5 hof
  generalize hST : (100 + st0) = ST
  generalize (bits BinOp.and IntKind.i64 minor 1) = mn
  clear hST
  have hsz := fmtSt_size ST mn reason
  have hln := headB_length (fmtSt ST reason mn) y
  have hz1 : (headB (fmtSt ST reason mn) y).length ≤ 2000000 := by unfold fsize at hfy; omega
  have CF2 := Lib.hid (fun w hE H => hfmtRep_calls ST reason mn (.slice ay y.length cy) (.slice none 0 0) y w hE (by omega) H (by omega))
  cases hk : okSt ST reason mn with
  | true =>
    obtain ⟨hrb, hpos⟩ := repB_made hk hy hy5
    have CP2 := Lib.hid (fun w v hE H => hrep_calls v (headB (fmtSt ST reason mn) y) w hE H hz1)
    rw [hrb] at CP2
    generalize headB (fmtSt ST reason mn) y = G at CF2 CP2 hpos
    have hposi : ((G.length : Int) == 0) = false := by rw [beq_eq_false_iff_ne]; omega
    clear hrb hk hy hsz hln hz1 hfy hy5 hpos
    have HX := box_one (w1 := w5) (.cells #[.int .i64 ST, .string reason, .int .i64 mn, .slice ay y.length cy, .slice none 0 0] 37)
    have K3 := Lib.hid (heap_alloc_new w5 (.cells #[.int .i64 ST, .string reason, .int .i64 mn, .slice ay y.length cy, .slice none 0 0] 37))
    have K1 := Lib.hid (row_below K1.out HX)
    have K2 := Lib.hid (row_below K2.out HX)
    have HB5 := Lib.hid (Below.self_trans hb5 HX)
    have HF5 := Lib.hid (HF5.out.below HX)
    have HX5 := Lib.hid (HX5.out.below HX)
    have HY5 := Lib.hid (HY5.out.below HX)
    clear HX hb5
    go_wp2_with fail
    refine (CF2.out _ (hE.below HB5.out) HY5.out).mono ?_
    rintro e w6 ⟨⟨v14, rfl, hr6⟩, hb6⟩
    obtain ⟨a6, c6, rfl, -, -, -, -⟩ := id hr6
    have K1 := Lib.hid (row_below K1.out hb6)
    have K2 := Lib.hid (row_below K2.out hb6)
    have K3 := Lib.hid (row_below K3.out hb6)
    have HB6 := Lib.hid (Below.self_trans HB5.out hb6)
    have HF6 := Lib.hid (HF5.out.below hb6)
    have HX6 := Lib.hid (HX5.out.below hb6)
    have HY6 := Lib.hid (HY5.out.below hb6)
    have HCP := Lib.hid (CP2.out _ _ (hE.env.below HB6.out) hr6)
    clear hr6 hb6 HB5 HF5 HX5 HY5 CF2 CP2
    go_wp2_with fail
    refine HCP.out.mono ?_
    rintro e w7 ⟨⟨vz, rfl, hz⟩, hb7⟩
    obtain ⟨az, cz, rfl, -, -, -⟩ := owned_slice hz
    simp only
    have HX := box_one (w1 := w7) (.cells #[.int .i64 ST, .string reason, .int .i64 mn, .slice az y.length cz, .slice none 0 0] 37)
    have K4 := Lib.hid (heap_alloc_new w7 (.cells #[.int .i64 ST, .string reason, .int .i64 mn, .slice az y.length cz, .slice none 0 0] 37))
    have k1 := row_below (row_below K1.out hb7) HX
    have k2 := row_below (row_below K2.out hb7) HX
    have K3 := Lib.hid (row_below (row_below K3.out hb7) HX)
    have HB7 := Lib.hid (Below.self_trans (Below.self_trans HB6.out hb7) HX)
    have HF7 := Lib.hid ((HF6.out.below hb7).below HX)
    have HX7 := Lib.hid ((HX6.out.below hb7).below HX)
    have HY7 := Lib.hid ((HY6.out.below hb7).below HX)
    have HZ7 := Lib.hid ((OwnF.rd hz).below HX)
    obtain ⟨⟨p0, p1, p2, p3, p4, p5⟩, -, -⟩ := row6 k1
    obtain ⟨⟨r0, r1, r2, r3, r4, r5⟩, -, -⟩ := row6 k2
    clear K1 K2 hb7 HB6 HF6 HX6 HY6 HCP hz HX k1 k2
    go_wp2_with fail
    refine (sameReq_calls m t n false _ _ _ _ x [] _ HF7.out HX7.out (RdB_nil _) (RdB_nil _)).mono ?_
    rintro e w8 ⟨rfl, hb8⟩
    obtain ⟨⟨i0, i1, i2, i3, i4⟩, -, -⟩ := row5 (row_below K3.out hb8)
    obtain ⟨⟨j0, j1, j2, j3, j4⟩, -, -⟩ := row5 (row_below K4.out hb8)
    have HB8 := Lib.hid (Below.self_trans HB7.out hb8)
    have HY8 := Lib.hid (HY7.out.below hb8)
    have HZ8 := Lib.hid (HZ7.out.below hb8)
    clear hb8 HB7 HF7 HX7 HY7 HZ7 K3 K4 p0 p1 p2 p3 p4 p5 r0 r1 r2 r3 r4 r5
    go_wp2_with fail
    refine (sameRep_calls ST reason mn _ _ _ _ y [] _ HY8.out HZ8.out (RdB_nil _) (RdB_nil _)).mono ?_
    rintro e w9 ⟨rfl, hb9⟩
    have HB9 := Lib.hid (Below.self_trans HB8.out hb9)
    clear hb9 HB8 HY8 HZ8 i0 i1 i2 i3 i4 j0 j1 j2 j3 j4
    go_wp2_with fail
    refine (PA.out _ (hE.below HB9.out)).mono ?_
    rintro e w10 ⟨rfl, hb10⟩
    have HB10 := Below.self_trans HB9.out hb10
    clear hb10
    go_wp2
    go_ret
    exact ⟨rfl, HB10⟩
  | false =>
    rw [headB_no2 hk] at CF2
    have CP2 := Lib.hid (fun w v hE H => hrep_calls v [] w hE H (by simp))
    rw [repB_nil] at CP2
    clear hk hy hsz hln hz1 hfy hy5
    have HX := box_one (w1 := w5) (.cells #[.int .i64 ST, .string reason, .int .i64 mn, .slice ay y.length cy, .slice none 0 0] 37)
    have K3 := Lib.hid (heap_alloc_new w5 (.cells #[.int .i64 ST, .string reason, .int .i64 mn, .slice ay y.length cy, .slice none 0 0] 37))
    have K1 := Lib.hid (row_below K1.out HX)
    have K2 := Lib.hid (row_below K2.out HX)
    have HB5 := Lib.hid (Below.self_trans hb5 HX)
    have HF5 := Lib.hid (HF5.out.below HX)
    have HX5 := Lib.hid (HX5.out.below HX)
    have HY5 := Lib.hid (HY5.out.below HX)
    clear HX hb5
    go_wp2_with fail
    refine (CF2.out _ (hE.below HB5.out) HY5.out).mono ?_
    rintro e w6 ⟨⟨v14, rfl, hr6⟩, hb6⟩
    obtain ⟨a6, c6, rfl, -, -, -, -⟩ := id hr6
    have K1 := Lib.hid (row_below K1.out hb6)
    have K2 := Lib.hid (row_below K2.out hb6)
    have K3 := Lib.hid (row_below K3.out hb6)
    have HB6 := Lib.hid (Below.self_trans HB5.out hb6)
    have HF6 := Lib.hid (HF5.out.below hb6)
    have HX6 := Lib.hid (HX5.out.below hb6)
    have HY6 := Lib.hid (HY5.out.below hb6)
    have HCP := Lib.hid (CP2.out _ _ (hE.env.below HB6.out) hr6)
    clear hr6 hb6 HB5 HF5 HX5 HY5 CF2 CP2
    go_wp2_with fail
    refine HCP.out.mono ?_
    rintro e w7 ⟨⟨vz, rfl, hz⟩, hb7⟩
    obtain ⟨az, cz, rfl, -, -, -⟩ := owned_slice hz
    simp only
    have HX := box_one (w1 := w7) (.cells #[.int .i64 0, .string .empty, .int .i64 0, .slice az 0 cz, .slice none 0 0] 37)
    have K4 := Lib.hid (heap_alloc_new w7 (.cells #[.int .i64 0, .string .empty, .int .i64 0, .slice az 0 cz, .slice none 0 0] 37))
    have k1 := row_below (row_below K1.out hb7) HX
    have k2 := row_below (row_below K2.out hb7) HX
    have K3 := Lib.hid (row_below (row_below K3.out hb7) HX)
    have HB7 := Lib.hid (Below.self_trans (Below.self_trans HB6.out hb7) HX)
    have HF7 := Lib.hid ((HF6.out.below hb7).below HX)
    have HX7 := Lib.hid ((HX6.out.below hb7).below HX)
    have HY7 := Lib.hid ((HY6.out.below hb7).below HX)
    have HZ7 := Lib.hid ((OwnF.rd hz).below HX)
    obtain ⟨⟨p0, p1, p2, p3, p4, p5⟩, -, -⟩ := row6 k1
    obtain ⟨⟨r0, r1, r2, r3, r4, r5⟩, -, -⟩ := row6 k2
    clear K1 K2 hb7 HB6 HF6 HX6 HY6 HCP hz HX k1 k2
    clear K3 K4 HZ7 HY7
    go_wp2_with fail
    refine (sameReq_calls m t n false _ _ _ _ x [] _ HF7.out HX7.out (RdB_nil _) (RdB_nil _)).mono ?_
    rintro e w8 ⟨rfl, hb8⟩
    have HB8 := Lib.hid (Below.self_trans HB7.out hb8)
    clear hb8 HB7 HF7 HX7 p0 p1 p2 p3 p4 p5 r0 r1 r2 r3 r4 r5
    go_wp2_with fail
    refine (PA.out _ (hE.below HB8.out)).mono ?_
    rintro e w9 ⟨rfl, hb9⟩
    have HB9 := Below.self_trans HB8.out hb9
    clear hb9
    go_wp2
    go_ret
    exact ⟨rfl, HB9⟩
end Go.Proofs.YtglljdhhgmgbgaaGreatDoor
