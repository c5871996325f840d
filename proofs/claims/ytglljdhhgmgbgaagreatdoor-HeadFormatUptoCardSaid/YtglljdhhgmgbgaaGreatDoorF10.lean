/- The core of HeadFormat. -/
import Derived.Test.YtglljdhhgmgbgaaGreatDoorAw10
import Derived.Test.YtglljdhhgmgbgaaGreatDoorSrcR
import Derived.Deep.DeepCutAuto
import Derived.Deep.RegionHeld3
import Derived.Deep.DrawnRows
import Derived.RegionTactic
import Derived.Test.YtglljdhhgmgbgaaGreatDoorPB
namespace Go.Proofs.YtglljdhhgmgbgaaGreatDoor
open Go.RowKit Go.Own
set_option linter.unusedVariables false
set_option maxHeartbeats 4000000
set_option linter.unusedSimpArgs false
attribute [local go_sem ↓] Go.wp_at_zero Go.wp_at_succ

theorem heap_threeW (w : World) (A B C : Obj) : (((w.alloc A).alloc B).alloc C).heap[w.heap.size]? = some A ∧ (((w.alloc A).alloc B).alloc C).heap[w.heap.size + 1]? = some B := by
  have hb := (Below.refl _ ((w.alloc A).alloc B)).alloc (Nat.le_refl _) C
  have h1 := ((Below.refl _ (w.alloc A)).alloc (Nat.le_refl _) B).block w.heap.size (by simp) |>.trans (heap_alloc_new w A)
  have h2 : ((w.alloc A).alloc B).heap[w.heap.size + 1]? = some B := by have := heap_alloc_new (w.alloc A) B; rwa [World.size_alloc] at this
  exact ⟨(hb.block _ (by simp; omega)).trans h1, (hb.block _ (by simp)).trans h2⟩
theorem set6gW {w1 : World} {g : Nat} {x0 x1 x2 x3 x4 x5 : Value} {T : TypeId} (y0 y1 y2 y3 y4 y5 : Value) (h : w1.heap[g]? = some (.cells #[x0, x1, x2, x3, x4, x5] T)) :
    (((((((w1.setCell ⟨g, 0, none⟩ y0).setCell ⟨g, 1, none⟩ y1).setCell ⟨g, 2, none⟩ y2).setCell ⟨g, 3, none⟩ y3).setCell ⟨g, 4, none⟩ y4).setCell ⟨g, 5, none⟩ y5)).heap[g]? = some (.cells #[y0, y1, y2, y3, y4, y5] T) ∧
    w1.grownBy ((((((w1.setCell ⟨g, 0, none⟩ y0).setCell ⟨g, 1, none⟩ y1).setCell ⟨g, 2, none⟩ y2).setCell ⟨g, 3, none⟩ y3).setCell ⟨g, 4, none⟩ y4).setCell ⟨g, 5, none⟩ y5) (some g) :=
  ⟨(set6 (B := 0) (w := w1) y0 y1 y2 y3 y4 y5 h ⟨rfl, rfl, rfl, Nat.le_refl _, fun _ hk => absurd hk (Nat.not_lt_zero _)⟩ (Nat.zero_le _)).1,
    grownBy_trans (grownBy_trans (grownBy_trans (grownBy_trans (grownBy_trans (grown_set _ g 0 _) (grown_set _ g 1 _)) (grown_set _ g 2 _)) (grown_set _ g 3 _)) (grown_set _ g 4 _)) (grown_set _ g 5 _)⟩
theorem heap_twoW (w : World) (A B : Obj) : ((w.alloc A).alloc B).heap[w.heap.size]? = some A ∧ ((w.alloc A).alloc B).heap[w.heap.size + 1]? = some B := by
  refine ⟨?_, by have := heap_alloc_new (w.alloc A) B; rwa [World.size_alloc] at this⟩
  exact ((Below.refl _ (w.alloc A)).alloc (Nat.le_refl _) B).block _ (by simp) |>.trans (heap_alloc_new w A)
theorem src_newnW (w : World) (a : Option Addr) (l : List Int) (cap : Nat) (h : RdC w a (intsV l)) (h3 : l.length ≤ cap) (h4 : cap ≤ maxLen) (h5 : a = none → cap = 0) (h8 : ∀ x ∈ l, In64 x) (n : Nat) (hn : n = w.heap.size) :
    Src (w.alloc (.cells #[.slice a l.length cap, .int .i64 0] 40)) n l := by
  subst hn
  exact src_new w a l cap h h3 h4 h5 h8
theorem made_sizeW {m t : ByteArray} {n : Int} {x : List Fld} {fr : Bool} {b : List UInt8} (h : MadeR m t n x fr b) : m.size ≤ 4 ∧ t.size ≤ 8 := ⟨(reqMs_ok m h.1.1).2, (reqTs_ok t h.1.2.1).2⟩
/-- where HeadFormat stands once its two messages are made -/
def WrAt (w0 wx : World) (m t : ByteArray) (n : Int) (vf : Value) (x : List Fld) (fr : Bool) (vb : Value) (b : List UInt8) (st : Int) (rs : ByteArray) (mn : Int) (va : Value) (y : List Fld) (vc : Value) (d : List UInt8) : Prop :=
  (wx.heap[w0.heap.size]? = some (.cells #[.string m, .string t, .int .i64 n, vf, .bool fr, vb] 35) ∧ wx.heap[w0.heap.size + 1]? = some (.cells #[.int .i64 st, .string rs, .int .i64 mn, va, vc] 37)) ∧
  (RdF wx vf x ∧ RdB wx vb b ∧ RdF wx va y ∧ RdB wx vc d) ∧ (m.size ≤ 2000000 ∧ t.size ≤ 2000000 ∧ rs.size ≤ 2000000 ∧ fsize x ≤ 2000000 ∧ fsize y ≤ 2000000 ∧ b.length ≤ 2000000 ∧ d.length ≤ 2000000) ∧ Below w0.heap.size w0 wx
theorem made_fsize {x : List Fld} {n : Nat} (h : ∀ f ∈ x, MadeQ f) (hn : x.length ≤ n) : fsize x ≤ n * 45 := by
  have : fsize x ≤ x.length * 45 := by
    clear hn
    induction x with
    | nil => exact Nat.zero_le _
    | cons f x ih =>
      have h1 := h f (List.mem_cons_self ..)
      have h2 := ih fun g hg => h g (List.mem_cons_of_mem _ hg)
      unfold fsize at h2 ⊢
      simp only [List.map_cons, List.sum_cons, List.length_cons]
      obtain ⟨-, q1, q2⟩ := h1
      omega
  exact Nat.le_trans this (Nat.mul_le_mul_right _ hn)

theorem cells11 {w w' : World} {g : Nat} {m t rs : ByteArray} {n st mn : Int} {vf vb va vc : Value} {fr : Bool} (k1 : w.heap[g]? = some (.cells #[.string m, .string t, .int .i64 n, vf, .bool fr, vb] 35)) (k2 : w.heap[g + 1]? = some (.cells #[.int .i64 st, .string rs, .int .i64 mn, va, vc] 37)) (hb : Below w.heap.size w w') :
    w'.cell? ⟨g, 0, none⟩ = some (.string m) ∧ w'.cell? ⟨g, 1, none⟩ = some (.string t) ∧ w'.cell? ⟨g, 2, none⟩ = some (.int .i64 n) ∧ w'.cell? ⟨g, 3, none⟩ = some (vf) ∧ w'.cell? ⟨g, 4, none⟩ = some (.bool fr) ∧ w'.cell? ⟨g, 5, none⟩ = some (vb) ∧ w'.cell? ⟨g + 1, 0, none⟩ = some (.int .i64 st) ∧ w'.cell? ⟨g + 1, 1, none⟩ = some (.string rs) ∧ w'.cell? ⟨g + 1, 2, none⟩ = some (.int .i64 mn) ∧ w'.cell? ⟨g + 1, 3, none⟩ = some (va) ∧ w'.cell? ⟨g + 1, 4, none⟩ = some (vc) := by
  obtain ⟨⟨c0, c1, c2, c3, c4, c5⟩, -, -⟩ := row6 (row_below k1 hb)
  obtain ⟨⟨d0, d1, d2, d3, d4⟩, -, -⟩ := row5 (row_below k2 hb)
  exact ⟨c0, c1, c2, c3, c4, c5, d0, d1, d2, d3, d4⟩

theorem WrAt.put {w0 w6 : World} {B : Nat} {m t rs : ByteArray} {n st mn : Int} {vf vb va vc : Value} {fr : Bool} {x : List Fld} {b d : List UInt8} (k1 : w6.heap[w0.heap.size]? = some (.cells #[.string m, .string t, .int .i64 n, vf, .bool fr, vb] 35)) (k2 : w6.heap[w0.heap.size + 1]? = some (.cells #[.int .i64 st, .string rs, .int .i64 mn, va, vc] 37))
    (hb : Below w0.heap.size w0 w6) (hB : w0.heap.size + 1 < B) (hf : OwnF B w6 vf x) (hy : OwnY B w6 vb b) (hd : RdB w0 vc d) (z1 : m.size ≤ 2000000) (z2 : t.size ≤ 2000000) (z3 : fsize x ≤ 2000000) (z4 : b.length ≤ 2000000) (z5 : d.length ≤ 2000000) (z6 : rs.size ≤ 2000000) (s0 s1 : Int) :
    WrAt w0 ((((w6.setCell ⟨w0.heap.size + 1, 0, none⟩ (.int .i64 s0)).setCell ⟨w0.heap.size + 1, 2, none⟩ (.int .i64 s1)).setCell ⟨w0.heap.size + 1, 3, none⟩ vf).drew) m t n vf x fr vb b s0 rs s1 vf x vc d := by
  have e1 : (w6.setCell ⟨w0.heap.size + 1, 0, none⟩ (.int .i64 s0)).heap[w0.heap.size + 1]? = some (.cells #[.int .i64 s0, .string rs, .int .i64 mn, va, vc] 37) := (heap_setCell_same w6 _ 0 _ _ _ k2).trans (by simp)
  have e2 : ((w6.setCell ⟨w0.heap.size + 1, 0, none⟩ (.int .i64 s0)).setCell ⟨w0.heap.size + 1, 2, none⟩ (.int .i64 s1)).heap[w0.heap.size + 1]? = some (.cells #[.int .i64 s0, .string rs, .int .i64 s1, va, vc] 37) := (heap_setCell_same _ _ 2 _ _ _ e1).trans (by simp)
  have e4 : (((w6.setCell ⟨w0.heap.size + 1, 0, none⟩ (.int .i64 s0)).setCell ⟨w0.heap.size + 1, 2, none⟩ (.int .i64 s1)).setCell ⟨w0.heap.size + 1, 3, none⟩ vf).heap[w0.heap.size + 1]? = some (.cells #[.int .i64 s0, .string rs, .int .i64 s1, vf, vc] 37) := (heap_setCell_same _ _ 3 _ _ _ e2).trans (by simp)
  have g := grownBy_trans (grownBy_trans (grown_set w6 (w0.heap.size + 1) 0 (.int .i64 s0)) (grown_set _ (w0.heap.size + 1) 2 (.int .i64 s1))) (grown_set _ (w0.heap.size + 1) 3 vf)
  have HB : Below w0.heap.size w0 (((w6.setCell ⟨w0.heap.size + 1, 0, none⟩ (.int .i64 s0)).setCell ⟨w0.heap.size + 1, 2, none⟩ (.int .i64 s1)).setCell ⟨w0.heap.size + 1, 3, none⟩ vf) := (((hb.setCell (by simp) _).setCell (by simp) _).setCell (by simp) _)
  have rf : RdF _ vf x := OwnF.rd (B := B) (own_src hf g hB)
  have ry : RdB _ vb b := OwnY.rd (B := B) (own_src hy g hB)
  have q1 := (g.block _ (Array.getElem?_eq_some_iff.1 k1).1 (by simp)).trans k1
  generalize (((w6.setCell ⟨w0.heap.size + 1, 0, none⟩ (.int .i64 s0)).setCell ⟨w0.heap.size + 1, 2, none⟩ (.int .i64 s1)).setCell ⟨w0.heap.size + 1, 3, none⟩ vf) = W at *
  have D := (Below.refl W.heap.size W).drew
  exact ⟨⟨q1, e4⟩, ⟨rf.below D, ry.below D, rf.below D, hd.below HB.drew⟩, ⟨z1, z2, z6, z3, z3, z4, z5⟩, HB.drew⟩

/-- what each operation of HeadFormat's last statement yields -/
def spF10 (M1 M2 : List UInt8) (R1 R2 : Value) : Nat → Value → World → Prop
  | 0, v, _ => v = R1
  | 1, v, w => RdB w v M1
  | 2, v, _ => v = .string ⟨M1.toArray⟩
  | 3, v, _ => v = R1
  | 4, v, w => RdB w v M1
  | 5, v, _ => v = .string ⟨M1.toArray⟩
  | 8, v, _ => v = R2
  | 9, v, w => RdB w v M2
  | 10, v, _ => v = .string ⟨M2.toArray⟩
  | 11, v, _ => v = R2
  | 12, v, w => RdB w v M2
  | 13, v, _ => v = .string ⟨M2.toArray⟩
  | _, v, _ => v = .bool true
theorem spF10_mono {M1 M2 : List UInt8} {R1 R2 : Value} (j : Nat) (v : Value) (x y : World) (h : Below x.heap.size x y) : spF10 M1 M2 R1 R2 j v x → spF10 M1 M2 R1 R2 j v y := by
  unfold spF10
  split
  all_goals first
    | exact id
    | exact fun h2 => RdB.below h2 h

set_option maxRecDepth 100000 in
theorem headFormat_core (vl : Value) (l : List Int) (rm rt : ByteArray) (rn : Int) (vf : Value) (x : List Fld) (fr : Bool) (vb : Value) (b : List UInt8) (st : Int) (rs : ByteArray) (mn : Int) (va : Value) (y : List Fld) (vc : Value) (d : List UInt8) (raw : Bool) (w : World) (hE : EnvP w)
    (Hl : RdI w vl l) (HF0 : RdF w vf x) (HB0 : RdB w vb b) (HF1 : RdF w va y) (HB1 : RdB w vc d) (h1 : rm.size ≤ 1048576) (h2 : rt.size ≤ 1048576) (h3 : rs.size ≤ 1048576) (h4 : fsize x ≤ 1048576) (h5 : fsize y ≤ 1048576) (h6 : b.length ≤ 1048576) (h7 : d.length ≤ 1048576) :
    Calls Tryz.prog 5 #[vl, .agg #[.string rm, .string rt, .int .i64 rn, vf, .bool fr, vb], .agg #[.int .i64 st, .string rs, .int .i64 mn, va, vc], .bool raw] w fun e w' => e = .returned (.bool true) ∧ Below w.heap.size w w' := by
  obtain ⟨⟨al, cl, rfl, h11, h12, h13, hc⟩, hin⟩ := Hl
  have PA := Lib.hid (fun w hE => awake10_calls w hE)
  have HBW := ((Below.refl w.heap.size w).alloc (Nat.le_refl _) (.cells #[.string rm, .string rt, .int .i64 rn, vf, .bool fr, vb] 35)).alloc (by simp) (.cells #[.int .i64 st, .string rs, .int .i64 mn, va, vc] 37)
  have H2 := Lib.hid (heap_twoW w (.cells #[.string rm, .string rt, .int .i64 rn, vf, .bool fr, vb] 35) (.cells #[.int .i64 st, .string rs, .int .i64 mn, va, vc] 37))
  have HS := Lib.hid (src_newnW ((w.alloc (.cells #[.string rm, .string rt, .int .i64 rn, vf, .bool fr, vb] 35)).alloc (.cells #[.int .i64 st, .string rs, .int .i64 mn, va, vc] 37)) al l cl (hc.below HBW) h11 h12 h13 hin (w.heap.size + 2) (by simp))
  clear hc hin h13
  go_enter Tryz.func5, Tryz.ntmps5
  go_upto_if 10 with fail
  go_cut [5] (fun s5 wx => s5 = .pointer (some ⟨w.heap.size, 0, none⟩) ∧ ∃ m t n vf x fr vb b st rs mn va y vc d, WrAt w wx m t n vf x fr vb b st rs mn va y vc d)
  case first =>
    cases raw with
    | true =>
      go_wp2_with fail
      go_meet
      case rel => exact ⟨rfl, rm, rt, rn, vf, x, fr, vb, b, st, rs, mn, va, y, vc, d, H2.out, ⟨HF0.below HBW, HB0.below HBW, HF1.below HBW, HB1.below HBW⟩, ⟨by omega, by omega, by omega, by omega, by omega, by omega, by omega⟩, HBW⟩
    | false =>
      go_wp2_with fail
      refine (request_calls (w.heap.size + 1 + 1) l _ HS.out).mono ?_
      rintro e w1 ⟨⟨m, t, n, vf1, x1, fr1, vb1, b1, rfl, hm, hof, hob⟩, hg, -⟩
      obtain ⟨hm4, ht8⟩ := made_sizeW hm
      have hmx := hm.2
      obtain ⟨af, cf, rfl, -, -, -⟩ := owned_slice hof
      obtain ⟨ab, cb, rfl, -, -, -⟩ := owned_slice hob
      obtain ⟨q1, q2⟩ := heap_threeW w (.cells #[.string rm, .string rt, .int .i64 rn, vf, .bool fr, vb] 35) (.cells #[.int .i64 st, .string rs, .int .i64 mn, va, vc] 37) (.cells #[.slice al l.length cl, .int .i64 0] 40)
      have k1 := grown_at hg q1 (by omega)
      have K2 := Lib.hid (grown_at hg q2 (by omega))
      have HB3 := below_src (HBW.alloc HBW.size _) hg (by omega)
      obtain ⟨⟨c0, c1, c2, c3, c4, c5⟩, ⟨f0, f1, f2, f3, f4, f5⟩, -⟩ := row6 k1
      have K1 := Lib.hid (set6gW (.string m) (.string t) (.int .i64 n) (.slice af x1.length cf) (.bool fr1) (.slice ab b1.length cb) k1)
      have HOF := Lib.hid hof
      have HOB := Lib.hid hob
      have HMX := Lib.hid hmx
      have HD := Lib.hid (HB1.below HB3)
      clear q1 q2 k1 hg hm hof hob hmx H2 HS HBW
      go_upto_region 3 with fail
      obtain ⟨k1, kg⟩ := K1.out
      have k2 := (kg.block _ (Array.getElem?_eq_some_iff.1 K2.out).1 (by simp)).trans K2.out
      have HB4 := Below.grown HB3 kg HB3.size (fun k hk => by have := Option.some.inj hk; omega)
      have HOF2 := Lib.hid (own_src HOF.out kg (by simp; omega))
      have HOB2 := Lib.hid (own_src HOB.out kg (by simp; omega))
      clear K1 K2 kg c0 c1 c2 c3 c4 c5 f0 f1 f2 f3 f4 f5 HB3 HOF HOB
      generalize ((((((w1.setCell ⟨w.heap.size, 0, none⟩ (.string m)).setCell ⟨w.heap.size, 1, none⟩ (.string t)).setCell ⟨w.heap.size, 2, none⟩ (.int .i64 n)).setCell ⟨w.heap.size, 3, none⟩ (.slice af x1.length cf)).setCell ⟨w.heap.size, 4, none⟩ (.bool fr1)).setCell ⟨w.heap.size, 5, none⟩ (.slice ab b1.length cb)) = w6 at k1 k2 HB4 HOF2 HOB2 ⊢
      obtain ⟨⟨d0, d1, d2, d3, d4⟩, ⟨f0, f1, f2, f3, f4⟩, -⟩ := row5 k2
      obtain ⟨⟨-, -, -, c3, -, -⟩, -, -⟩ := row6 k1
      have K1 := Lib.hid k1
      have K2 := Lib.hid k2
      clear k1 k2
      have HK := Lib.hid (WrAt.put (d := d) K1.out K2.out HB4 (by simp) HOF2.out HOB2.out HB1 (by omega) (by omega) (by have := made_fsize HMX.out.1.1 HMX.out.1.2.1; omega) (by have := HMX.out.2; omega) (by omega) (by omega) 200 1)
      go_region_with (fail)
      all_goals
        go_wp2_with fail
        go_meet
        case rel => exact ⟨rfl, _, _, _, _, _, _, _, _, _, _, _, _, _, _, _, HK.out⟩
  case rest =>
  obtain ⟨rfl, m, t, n, vf, x, fr, vb, b, st, rs, mn, va, y, vc, d, ⟨k1, k2⟩, ⟨r1, r2, r3, r4⟩, ⟨z1, z2, z3, z4, z5, z6, z7⟩, HB2⟩ := hcut
  clear HF0 HB0 HF1 HB1 HBW H2 HS h1 h2 h3 h4 h5 h6 h7
  have C1 := Lib.hid (fun w hE Hf => hfmtReq_calls m t n vf fr vb x w hE (by omega) (by omega) Hf z4)
  have C2 := Lib.hid (fun w Hf => (refHeadReq_calls m t n vf fr vb x w (by omega) (by omega) Hf z4).mono (R' := fun e w' => (∃ v, e = .returned v ∧ RdB w' v (headB (fmtReq m t n) x)) ∧ Below w.heap.size w w') fun e w' ⟨⟨v, h1, h2⟩, h3⟩ => ⟨⟨v, h1, h2.rd⟩, h3⟩)
  have C3 := Lib.hid (fun w hE Hf => hfmtRep_calls st rs mn va vc y w hE (by omega) Hf z5)
  have C4 := Lib.hid (fun w Hf => (refHeadRep_calls st rs mn va vc y w (by omega) Hf z5).mono (R' := fun e w' => (∃ v, e = .returned v ∧ RdB w' v (headB (fmtSt st rs mn) y)) ∧ Below w.heap.size w w') fun e w' ⟨⟨v, h1, h2⟩, h3⟩ => ⟨⟨v, h1, h2.rd⟩, h3⟩)
  generalize headB (fmtReq m t n) x = M1 at *
  generalize headB (fmtSt st rs mn) y = M2 at *
  obtain ⟨af, cf, rfl, p1, p2, p3, p4⟩ := id r1
  obtain ⟨ab, cb, rfl, -, -, -, -⟩ := id r2
  obtain ⟨ay, cy, rfl, q1, q2, q3, q4⟩ := id r3
  obtain ⟨ad, cd, rfl, -, -, -, -⟩ := id r4
  obtain ⟨⟨c0, c1, c2, c3, c4, c5⟩, -, -⟩ := row6 k1
  obtain ⟨⟨d0, d1, d2, d3, d4⟩, -, -⟩ := row5 k2
  have e1 : ((⟨M1.toArray⟩ : ByteArray).toList == (⟨M1.toArray⟩ : ByteArray).toList) = true := by simp
  have e2 : ((⟨M2.toArray⟩ : ByteArray).toList == (⟨M2.toArray⟩ : ByteArray).toList) = true := by simp
  have K1 := Lib.hid k1
  have K2 := Lib.hid k2
  clear k1 k2
  by_cases hx : 100 < x.length
  · have hx2 : (100 : Int) < (x.length : Int) := by omega
    go_wp2_with fail
    refine (PA.out _ (hE.below HB2)).mono ?_
    rintro e w1 ⟨rfl, hb⟩
    go_wp2
    go_ret
    exact ⟨rfl, Below.self_trans HB2 hb⟩
  · have hx2 : ¬ (100 : Int) < (x.length : Int) := by omega
    by_cases hy : 100 < y.length
    · have hy2 : (100 : Int) < (y.length : Int) := by omega
      go_wp2_with fail
      refine (PA.out _ (hE.below HB2)).mono ?_
      rintro e w1 ⟨rfl, hb⟩
      go_wp2
      go_ret
      exact ⟨rfl, Below.self_trans HB2 hb⟩
    · have hy2 : ¬ (100 : Int) < (y.length : Int) := by omega
      clear hx hy
      go_wp2_with fail
      generalize hR1 : (Value.agg #[.string m, .string t, .int .i64 n, .slice af x.length cf, .bool fr, .slice ab b.length cb]) = R1 at C1 C2
      generalize hR2 : (Value.agg #[.int .i64 st, .string rs, .int .i64 mn, .slice ay y.length cy, .slice ad d.length cd]) = R2 at C3 C4
      refine wp_region_spec_lit (Le := fun x y => Below x.heap.size x y) (Sp := spF10 M1 M2 R1 R2) rfl (by kernel_rfl) (fun x y z h1 h2 => Below.self_trans h1 h2) spF10_mono (fun x => Below.refl _ _) ⟨?_, ?_, ?_, ?_, ?_, ?_, ?_, ?_, ?_, ?_, ?_, ?_, ?_, ?_, ?_, ?_, ?_, ?_, ?_, ?_, trivial⟩ ?_
      · refine stepOk_val fun a w' hle hk hp => ⟨rfl, R1, w', ?_, Below.refl _ _, rfl⟩
        have h5 := ev (kept_eval (s := 5) hk rfl)
        have hc := cells11 K1.out K2.out (of_drew hle)
        clear hp hk hle
        rw [← hR1]
        simp at h5
        simp [execOp, h5, go_sem, hc]
      · refine stepOk_call fun a w' hle hk hp => ⟨rfl, 15, #[R1], ?_, ?_⟩
        · have h5 := ev (show a.eval (.tmp 31) = R1 from hp 0 _ rfl rfl)
          clear hp hk hle
          simp [execOp, h5, go_sem]
        · have HBc := of_drew hle
          exact (C1.out _ (hE.below (Below.self_trans HB2 HBc)) (r1.below HBc)).mono fun e wn ⟨⟨v, he, hr⟩, hb⟩ => ⟨v, he, hb, hr⟩
      · refine stepOk_val fun a w' hle hk hp => ⟨rfl, .string ⟨M1.toArray⟩, w', ?_, Below.refl _ _, rfl⟩
        obtain ⟨av, cv, h5, -, -, -, hcv⟩ : RdB w' (a.eval (.tmp 32)) M1 := hp 1 _ rfl rfl
        have h5 := ev h5
        have kv := conv_bytes (P := Tryz.prog) (cap := cv) Tryz.underlying23 Tryz.underlying5 Tryz.underlying9 (n := M1.length) rfl hcv
        clear hp hk hle
        simp [execOp, h5, go_sem, kv]
      · refine stepOk_val fun a w' hle hk hp => ⟨rfl, R1, w', ?_, Below.refl _ _, rfl⟩
        have h5 := ev (kept_eval (s := 5) hk rfl)
        have hc := cells11 K1.out K2.out (of_drew hle)
        clear hp hk hle
        rw [← hR1]
        simp at h5
        simp [execOp, h5, go_sem, hc]
      · refine stepOk_call fun a w' hle hk hp => ⟨rfl, 16, #[R1], ?_, ?_⟩
        · have h5 := ev (show a.eval (.tmp 34) = R1 from hp 3 _ rfl rfl)
          clear hp hk hle
          simp [execOp, h5, go_sem]
        · have HBc := of_drew hle
          exact (C2.out _ (r1.below HBc)).mono fun e wn ⟨⟨v, he, hr⟩, hb⟩ => ⟨v, he, hb, hr⟩
      · refine stepOk_val fun a w' hle hk hp => ⟨rfl, .string ⟨M1.toArray⟩, w', ?_, Below.refl _ _, rfl⟩
        obtain ⟨av, cv, h5, -, -, -, hcv⟩ : RdB w' (a.eval (.tmp 35)) M1 := hp 4 _ rfl rfl
        have h5 := ev h5
        have kv := conv_bytes (P := Tryz.prog) (cap := cv) Tryz.underlying23 Tryz.underlying5 Tryz.underlying9 (n := M1.length) rfl hcv
        clear hp hk hle
        simp [execOp, h5, go_sem, kv]
      · refine stepOk_val fun a w' hle hk hp => ⟨rfl, .bool true, w', ?_, Below.refl _ _, rfl⟩
        have g0 := ev (show a.eval (.tmp 33) = .string ⟨M1.toArray⟩ from hp 2 _ rfl rfl)
        have g1 := ev (show a.eval (.tmp 36) = .string ⟨M1.toArray⟩ from hp 5 _ rfl rfl)
        clear hp hk hle
        simp [execOp, go_sem, g0, g1, e1]
      · refine stepOk_val fun a w' hle hk hp => ⟨rfl, .bool true, w', ?_, Below.refl _ _, rfl⟩
        have g0 := ev (show a.eval (.tmp 37) = .bool true from hp 6 _ rfl rfl)
        clear hp hk hle
        simp [execOp, go_sem, g0]
      · refine stepOk_val fun a w' hle hk hp => ⟨wanted_of rfl rfl (hp 7 _ rfl rfl), R2, w', ?_, Below.refl _ _, rfl⟩
        have h5 := ev (kept_eval (s := 6) hk rfl)
        have hc := cells11 K1.out K2.out (of_drew hle)
        clear hp hk hle
        rw [← hR2]
        simp at h5
        simp [execOp, h5, go_sem, hc]
      · refine stepOk_call fun a w' hle hk hp => ⟨wanted_of rfl rfl (hp 7 _ rfl rfl), 17, #[R2], ?_, ?_⟩
        · have h5 := ev (show a.eval (.tmp 39) = R2 from hp 8 _ rfl rfl)
          clear hp hk hle
          simp [execOp, h5, go_sem]
        · have HBc := of_drew hle
          exact (C3.out _ (hE.below (Below.self_trans HB2 HBc)) (r3.below HBc)).mono fun e wn ⟨⟨v, he, hr⟩, hb⟩ => ⟨v, he, hb, hr⟩
      · refine stepOk_val fun a w' hle hk hp => ⟨wanted_of rfl rfl (hp 7 _ rfl rfl), .string ⟨M2.toArray⟩, w', ?_, Below.refl _ _, rfl⟩
        obtain ⟨av, cv, h5, -, -, -, hcv⟩ : RdB w' (a.eval (.tmp 40)) M2 := hp 9 _ rfl rfl
        have h5 := ev h5
        have kv := conv_bytes (P := Tryz.prog) (cap := cv) Tryz.underlying23 Tryz.underlying5 Tryz.underlying9 (n := M2.length) rfl hcv
        clear hp hk hle
        simp [execOp, h5, go_sem, kv]
      · refine stepOk_val fun a w' hle hk hp => ⟨wanted_of rfl rfl (hp 7 _ rfl rfl), R2, w', ?_, Below.refl _ _, rfl⟩
        have h5 := ev (kept_eval (s := 6) hk rfl)
        have hc := cells11 K1.out K2.out (of_drew hle)
        clear hp hk hle
        rw [← hR2]
        simp at h5
        simp [execOp, h5, go_sem, hc]
      · refine stepOk_call fun a w' hle hk hp => ⟨wanted_of rfl rfl (hp 7 _ rfl rfl), 18, #[R2], ?_, ?_⟩
        · have h5 := ev (show a.eval (.tmp 42) = R2 from hp 11 _ rfl rfl)
          clear hp hk hle
          simp [execOp, h5, go_sem]
        · have HBc := of_drew hle
          exact (C4.out _ (r3.below HBc)).mono fun e wn ⟨⟨v, he, hr⟩, hb⟩ => ⟨v, he, hb, hr⟩
      · refine stepOk_val fun a w' hle hk hp => ⟨wanted_of rfl rfl (hp 7 _ rfl rfl), .string ⟨M2.toArray⟩, w', ?_, Below.refl _ _, rfl⟩
        obtain ⟨av, cv, h5, -, -, -, hcv⟩ : RdB w' (a.eval (.tmp 43)) M2 := hp 12 _ rfl rfl
        have h5 := ev h5
        have kv := conv_bytes (P := Tryz.prog) (cap := cv) Tryz.underlying23 Tryz.underlying5 Tryz.underlying9 (n := M2.length) rfl hcv
        clear hp hk hle
        simp [execOp, h5, go_sem, kv]
      · refine stepOk_val fun a w' hle hk hp => ⟨wanted_of rfl rfl (hp 7 _ rfl rfl), .bool true, w', ?_, Below.refl _ _, rfl⟩
        have g0 := ev (show a.eval (.tmp 41) = .string ⟨M2.toArray⟩ from hp 10 _ rfl rfl)
        have g1 := ev (show a.eval (.tmp 44) = .string ⟨M2.toArray⟩ from hp 13 _ rfl rfl)
        clear hp hk hle
        simp [execOp, go_sem, g0, g1, e2]
      · refine stepOk_val fun a w' hle hk hp => ⟨rfl, .bool true, w', ?_, Below.refl _ _, rfl⟩
        have g0 := ev (show a.eval (.tmp 38) = .bool true from hp 7 _ rfl rfl)
        have g1 := ev (show a.eval (.tmp 45) = .bool true from hp 14 _ rfl rfl)
        clear hp hk hle
        simp [execOp, go_sem, g0, g1]
      · refine stepOk_val fun a w' hle hk hp => ⟨rfl, .bool true, w', ?_, Below.refl _ _, rfl⟩
        have g0 := ev (show a.eval (.tmp 46) = .bool true from hp 15 _ rfl rfl)
        clear hp hk hle
        simp [execOp, go_sem, g0]
      · refine stepOk_call fun a w' hle hk hp => ⟨wanted_of rfl rfl (hp 16 _ rfl rfl), 13, #[], ?_, ?_⟩
        · clear hp hk hle
          simp [execOp, go_sem]
        · have HBc := of_drew hle
          exact (PA.out _ (hE.below (Below.self_trans HB2 HBc))).mono fun e wn ⟨he, hb⟩ => ⟨_, he, hb, rfl⟩
      · refine stepOk_val fun a w' hle hk hp => ⟨rfl, .bool true, w', ?_, Below.refl _ _, rfl⟩
        have g0 := ev (show a.eval (.tmp 47) = .bool true from hp 16 _ rfl rfl)
        have g1 := ev (show a.eval (.tmp 48) = .bool true from hp 17 _ rfl rfl)
        clear hp hk hle
        simp [execOp, go_sem, g0, g1]
      · refine stepOk_val fun a w' hle hk hp => ⟨rfl, .bool true, w', ?_, Below.refl _ _, rfl⟩
        have g0 := ev (show a.eval (.tmp 49) = .bool true from hp 18 _ rfl rfl)
        clear hp hk hle
        simp [execOp, go_sem, g0]
      · intro a w' hle hk hp
        have h8 : a.tmps.getD 8 undef = .bool true := hp 19 _ rfl
        have HBc := of_drew hle
        have hd : a.defers = [] := hk.1
        have hfin : bodyPost Tryz.prog Tryz.f5 (fun e w'' => e = .returned (.bool true) ∧ Below w.heap.size w w'') .ret a w' := bodyPost_ret ((results_tmp rfl _ _ _).trans (by rw [h8])) hd ⟨rfl, Below.self_trans HB2 HBc⟩
        clear hp hk hle h8
        simp only [Exit.then]
        apply_assumption
        go_wp2
        exact hfin
end Go.Proofs.YtglljdhhgmgbgaaGreatDoor
