/- FieldFormat's and FieldLine's cores. -/
import Derived.Test.YtaggaldpigeamaaFmt
namespace Go.Proofs.Ytaggaldpigeamaa
open Go.RowKit Go.Own
set_option linter.unusedVariables false
set_option maxHeartbeats 1000000

theorem src_new' (w : World) (a : Option Addr) (l : List Int) (cap : Nat) (h : RdC w a (intsV l)) (h3 : l.length ≤ cap) (h4 : cap ≤ maxLen) (h5 : a = none → cap = 0) (h8 : ∀ x ∈ l, In64 x) (n : Nat) (hn : n = w.heap.size) :
    Src (w.alloc (.cells #[.slice a l.length cap, .int .i64 0] 29)) n l := by
  subst hn; exact src_new w a l cap h h3 h4 h5 h8
theorem below_new2 {w w' : World} {o p : Obj} (hg : ((w.alloc o).alloc p).grownBy w' (some (w.heap.size + 1))) : Below w.heap.size w w' := by
  refine ⟨hg.os, hg.tape, hg.output, by have := hg.size; simp at this; omega, fun k hk => ?_⟩
  refine (hg.block k (by simp; omega) (by intro h; injection h with h; omega)).trans ?_
  rw [Lib.alloc_old _ _ k (by simp; omega), Lib.alloc_old _ _ k hk]

theorem fieldFormat_core (vr : Value) (raw : List Fld) (vl : Value) (l : List Int) (wild : Bool) (w : World) (hE : Env w) (Hr : RdF w vr raw) (Hl : RdI w vl l) (hM : fsize raw ≤ 1048576) :
    Calls Try.prog 4 #[vr, vl, .bool wild] w fun e w' => e = .returned (.bool true) ∧ Below w.heap.size w w' := by
  go_enter Try.func4, Try.ntmps4
  go_wp2_with fail
  refine (lawFields_calls vr raw vl l wild 1048576 _ Hr Hl hM (by omega)).mono ?_
  rintro e w1 ⟨⟨vx, x, rfl, Hx, hx30, hxs⟩, hb1⟩
  have hx2 : fsize x ≤ 2000000 := by omega
  clear Hr Hl hM hxs
  go_wp2_with fail
  refine (fformat_calls vx x _ Hx hx2).mono ?_
  rintro e w2 ⟨rfl, hb2⟩
  have HB2 := Below.self_trans hb1 hb2
  have Hx2 := Hx.below hb2
  clear Hx hb1 hb2
  go_wp2_with fail
  refine (refFormat_calls vx x _ Hx2 hx2).mono ?_
  rintro e w3 ⟨rfl, hb3⟩
  have HB3 := Below.self_trans HB2 hb3
  clear hb3 Hx2 HB2
  generalize formatB x = z
  go_wp2_with fail
  refine (awake06_calls _ (hE.below HB3)).mono ?_
  rintro e w4 ⟨rfl, hb4⟩
  have HB4 := Below.self_trans HB3 hb4
  go_wp2
  go_ret
  exact ⟨rfl, HB4⟩

theorem fieldLine_core (vl : Value) (l : List Int) (raw : Fld) (w : World) (hE : Env w) (Hl : RdI w vl l) (h0 : raw.name.size + raw.val.size ≤ 1048576) :
    Calls Try.prog 5 #[vl, raw.agg] w fun e w' => e = .returned (.bool true) ∧ Below w.heap.size w w' := by
  obtain ⟨⟨a, cap, rfl, hlc, hcm, hcn, hc⟩, hin⟩ := Hl
  have h1 : raw.name.size ≤ 1048576 := by omega
  have h2 : raw.val.size ≤ 1048576 := by omega
  unfold Fld.agg
  go_enter Try.func5, Try.ntmps5
  go_wp2_with fail
  refine (sfield_calls _ l _ (src_new' (w.alloc (.cells #[.string raw.name, .string raw.val] 26)) a l cap (hc.below ((Below.refl _ _).alloc (Nat.le_refl _) _)) hlc hcm hcn hin (w.heap.size + 1) (by simp))).mono ?_
  rintro e w1 ⟨⟨f, rfl, hf⟩, hg, -⟩
  have hR := grown_at hg ((Lib.alloc_old _ _ w.heap.size (by simp)).trans (heap_alloc_new w _)) (by omega)
  have HB1 := below_new2 hg
  have hlt1 : w.heap.size < w1.heap.size := by have := hg.size; simp at this; omega
  have r0 : w1.cell? ⟨w.heap.size, 0, none⟩ = some (.string raw.name) := cell_of_row w1 _ 0 _ _ _ hR
  have r1 : w1.cell? ⟨w.heap.size, 1, none⟩ = some (.string raw.val) := cell_of_row w1 _ 1 _ _ _ hR
  clear hg hR hc hin hlc hcm hcn
  cases hv : validF raw with
  | true =>
    go_wp2_with fail
    refine (refValid_calls raw _ (Nat.le_trans h1 (by simp [maxLen])) (Nat.le_trans h2 (by simp [maxLen]))).mono ?_
    rintro e w2 ⟨rfl, hb2⟩
    rw [hv]
    have k0 := (keptN hb2 0).1
    have k1 := (keptN hb2 1).1
    have f0 := (keptN hb2 0).2
    have f1 := (keptN hb2 1).2
    have hbw := kept_below hb2
    have s0 := cell_below hbw r0
    have s1 := cell_below hbw r1
    have hlt2 := kept_lt hb2
    have HBW := ((Below.self_trans HB1 hbw).setCell (p := ⟨w1.heap.size, 0, none⟩) (by simp; omega) (.string raw.name)).setCell (p := ⟨w1.heap.size, 1, none⟩) (by simp; omega) (.string raw.val)
    have c0 : ((w2.setCell ⟨w1.heap.size, 0, none⟩ (.string raw.name)).setCell ⟨w1.heap.size, 1, none⟩ (.string raw.val)).cell? ⟨w1.heap.size, 0, none⟩ = some (.string raw.name) := by
      rw [World.cell?_setCell_other _ _ _ _ (by simp), World.cell?_setCell_same _ _ _ k0]
    have c1 : ((w2.setCell ⟨w1.heap.size, 0, none⟩ (.string raw.name)).setCell ⟨w1.heap.size, 1, none⟩ (.string raw.val)).cell? ⟨w1.heap.size, 1, none⟩ = some (.string raw.val) := by
      refine World.cell?_setCell_same _ _ _ (u := .string f.val) ?_
      rw [World.cell?_setCell_other _ _ _ _ (by simp)]; exact k1
    have HV := hv
    clear hv hb2 hbw r0 r1 HB1 hf
    have hls := lineB_size raw
    have hz4 : 4 ≤ (lineB raw).size := by omega
    have hz5 : (lineB raw).size ≤ 4000000 := by omega
    have hcut := line_cut raw
    have hpv : parseV (bs (bl raw.name ++ 58 :: 32 :: bl raw.val)) = .tuple #[.agg #[.string raw.name, .string raw.val], .int .i64 0] := by
      unfold parseV; rw [parse_line HV]; rfl
    rw [← hcut] at hpv
    have hfo := format_one HV
    have HF := Lib.hid hfo
    have HPV := Lib.hid hpv
    clear hls hcut hpv hfo
    go_wp2_with fail
    refine (fformat_calls _ [raw] _ (rdf_new' _ [raw] _ _ _ rfl (by simp) rfl (by simp)) (by simp [fsize]; omega)).mono ?_
    rintro e w3 ⟨rfl, hb3⟩
    rw [HF.out]
    have hbw3 := kept_below hb3
    have HB3 := Below.self_trans HBW hbw3
    have d0 := cell_below hbw3 c0
    have d1 := cell_below hbw3 c1
    clear hb3 hbw3 HBW c0 c1 HF
    revert HPV hz4 hz5
    generalize lineB raw = s
    intro hz4 hz5 HPV
    go_wp2_with fail
    refine (fparse_calls _ _ (hE.below HB3) (by rw [ByteArray.size_extract]; omega)).mono ?_
    rintro e w4 ⟨rfl, hb4⟩
    rw [HPV.out]
    have HB4 := Below.self_trans HB3 hb4
    have x0 := cell_below hb4 d0
    have x1 := cell_below hb4 d1
    have hlt4 := World.block_lt_of_cell? _ _ x0
    clear hb4 HB3 d0 d1 HPV
    simp only at hlt4
    have HB5 := HB4.alloc HB4.size (.cells #[.string raw.name, .string raw.val] 26)
    go_wp2_with fail
    refine (awake06_calls _ (hE.below HB5)).mono ?_
    rintro e w5 ⟨rfl, hb5⟩
    have HB6 := Below.self_trans HB5 hb5
    go_wp2
    go_ret
    exact ⟨rfl, HB6⟩
  | false =>
    obtain ⟨HV, g1, g2, -⟩ := hf
    go_wp2_with fail
    refine (refValid_calls raw _ (Nat.le_trans h1 (by simp [maxLen])) (Nat.le_trans h2 (by simp [maxLen]))).mono ?_
    rintro e w2 ⟨rfl, hb2⟩
    rw [hv]
    have c0 := (keptN hb2 0).1
    have c1 := (keptN hb2 1).1
    have hbw := kept_below hb2
    have HBW := Below.self_trans HB1 hbw
    have hlt2 := kept_lt hb2
    clear hv hb2 hbw r0 r1 HB1
    have hls := lineB_size f
    have hz4 : 4 ≤ (lineB f).size := by omega
    have hz5 : (lineB f).size ≤ 4000000 := by omega
    have hcut := line_cut f
    have hpv : parseV (bs (bl f.name ++ 58 :: 32 :: bl f.val)) = .tuple #[.agg #[.string f.name, .string f.val], .int .i64 0] := by
      unfold parseV; rw [parse_line HV]; rfl
    rw [← hcut] at hpv
    have hfo := format_one HV
    have HF := Lib.hid hfo
    have HPV := Lib.hid hpv
    clear hls hcut hpv hfo
    go_wp2_with fail
    refine (fformat_calls _ [f] _ (rdf_new' _ [f] _ _ _ rfl (by simp) rfl (by simp)) (by simp [fsize]; omega)).mono ?_
    rintro e w3 ⟨rfl, hb3⟩
    rw [HF.out]
    have hbw3 := kept_below hb3
    have HB3 := Below.self_trans HBW hbw3
    have d0 := cell_below hbw3 c0
    have d1 := cell_below hbw3 c1
    clear hb3 hbw3 HBW c0 c1 HF
    revert HPV hz4 hz5
    generalize lineB f = s
    intro hz4 hz5 HPV
    go_wp2_with fail
    refine (fparse_calls _ _ (hE.below HB3) (by rw [ByteArray.size_extract]; omega)).mono ?_
    rintro e w4 ⟨rfl, hb4⟩
    rw [HPV.out]
    have HB4 := Below.self_trans HB3 hb4
    have x0 := cell_below hb4 d0
    have x1 := cell_below hb4 d1
    have hlt4 := World.block_lt_of_cell? _ _ x0
    clear hb4 HB3 d0 d1 HPV
    simp only at hlt4
    have HB5 := HB4.alloc HB4.size (.cells #[.string f.name, .string f.val] 26)
    go_wp2_with fail
    refine (awake06_calls _ (hE.below HB5)).mono ?_
    rintro e w5 ⟨rfl, hb5⟩
    have HB6 := Below.self_trans HB5 hb5
    go_wp2
    go_ret
    exact ⟨rfl, HB6⟩
end Go.Proofs.Ytaggaldpigeamaa
