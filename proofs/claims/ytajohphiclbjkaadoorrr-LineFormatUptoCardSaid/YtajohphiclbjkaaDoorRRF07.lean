/- The core of LineFormat. -/
import Derived.Test.YtajohphiclbjkaaDoorRRT07
import Derived.Deep.RegionHeld3
import Derived.Deep.DrawnRows
namespace Go.Proofs.YtajohphiclbjkaaDoorRR
open Go.RowKit Go.Own
set_option linter.unusedVariables false
set_option maxHeartbeats 2000000
attribute [local go_sem ↓] Go.wp_at_zero Go.wp_at_succ

theorem heap_three (w : World) (A B C : Obj) : (((w.alloc A).alloc B).alloc C).heap[w.heap.size]? = some A ∧ (((w.alloc A).alloc B).alloc C).heap[w.heap.size + 1]? = some B := by
  have hb := (Below.refl _ ((w.alloc A).alloc B)).alloc (Nat.le_refl _) C
  have h1 := ((Below.refl _ (w.alloc A)).alloc (Nat.le_refl _) B).block w.heap.size (by simp) |>.trans (heap_alloc_new w A)
  have h2 : ((w.alloc A).alloc B).heap[w.heap.size + 1]? = some B := by have := heap_alloc_new (w.alloc A) B; rwa [World.size_alloc] at this
  exact ⟨(hb.block _ (by simp; omega)).trans h1, (hb.block _ (by simp)).trans h2⟩
theorem set6g {w1 : World} {g : Nat} {x0 x1 x2 x3 x4 x5 : Value} {T : TypeId} (y0 y1 y2 y3 y4 y5 : Value) (h : w1.heap[g]? = some (.cells #[x0, x1, x2, x3, x4, x5] T)) :
    (((((((w1.setCell ⟨g, 0, none⟩ y0).setCell ⟨g, 1, none⟩ y1).setCell ⟨g, 2, none⟩ y2).setCell ⟨g, 3, none⟩ y3).setCell ⟨g, 4, none⟩ y4).setCell ⟨g, 5, none⟩ y5)).heap[g]? = some (.cells #[y0, y1, y2, y3, y4, y5] T) ∧
    w1.grownBy ((((((w1.setCell ⟨g, 0, none⟩ y0).setCell ⟨g, 1, none⟩ y1).setCell ⟨g, 2, none⟩ y2).setCell ⟨g, 3, none⟩ y3).setCell ⟨g, 4, none⟩ y4).setCell ⟨g, 5, none⟩ y5) (some g) :=
  ⟨(set6 (B := 0) (w := w1) y0 y1 y2 y3 y4 y5 h ⟨rfl, rfl, rfl, Nat.le_refl _, fun _ hk => absurd hk (Nat.not_lt_zero _)⟩ (Nat.zero_le _)).1,
    grownBy_trans (grownBy_trans (grownBy_trans (grownBy_trans (grownBy_trans (grown_set _ g 0 _) (grown_set _ g 1 _)) (grown_set _ g 2 _)) (grown_set _ g 3 _)) (grown_set _ g 4 _)) (grown_set _ g 5 _)⟩

/-- where LineFormat stands once its two messages are made -/
def FmtAt (w0 wx : World) : Prop := ∃ m t n vf fr vb st rs mn va vc, wx.heap[w0.heap.size]? = some (.cells #[.string m, .string t, .int .i64 n, vf, .bool fr, vb] 27) ∧ wx.heap[w0.heap.size + 1]? = some (.cells #[.int .i64 st, .string rs, .int .i64 mn, va, vc] 43) ∧
  m.size ≤ 2000000 ∧ t.size ≤ 2000000 ∧ rs.size ≤ 2000000 ∧ Below w0.heap.size w0 wx
theorem heap_two (w : World) (A B : Obj) : ((w.alloc A).alloc B).heap[w.heap.size]? = some A ∧ ((w.alloc A).alloc B).heap[w.heap.size + 1]? = some B := by
  refine ⟨?_, by have := heap_alloc_new (w.alloc A) B; rwa [World.size_alloc] at this⟩
  exact ((Below.refl _ (w.alloc A)).alloc (Nat.le_refl _) B).block _ (by simp) |>.trans (heap_alloc_new w A)

theorem src_newn (w : World) (a : Option Addr) (l : List Int) (cap : Nat) (h : RdC w a (intsV l)) (h3 : l.length ≤ cap) (h4 : cap ≤ maxLen) (h5 : a = none → cap = 0) (h8 : ∀ x ∈ l, In64 x) (n : Nat) (hn : n = w.heap.size) :
    Src (w.alloc (.cells #[.slice a l.length cap, .int .i64 0] 30)) n l := by
  subst hn
  exact src_new w a l cap h h3 h4 h5 h8

theorem FmtAt.put {w0 w6 : World} {m t rs : ByteArray} {n st mn : Int} {vf vb va vc : Value} {fr : Bool} (k1 : w6.heap[w0.heap.size]? = some (.cells #[.string m, .string t, .int .i64 n, vf, .bool fr, vb] 27)) (k2 : w6.heap[w0.heap.size + 1]? = some (.cells #[.int .i64 st, .string rs, .int .i64 mn, va, vc] 43))
    (z1 : m.size ≤ 2000000) (z2 : t.size ≤ 2000000) (z3 : rs.size ≤ 2000000) (hb : Below w0.heap.size w0 w6) (a b : Int) : FmtAt w0 (((w6.setCell ⟨w0.heap.size + 1, 0, none⟩ (.int .i64 a)).setCell ⟨w0.heap.size + 1, 2, none⟩ (.int .i64 b)).drew) := by
  have e1 : (w6.setCell ⟨w0.heap.size + 1, 0, none⟩ (.int .i64 a)).heap[w0.heap.size + 1]? = some (.cells #[.int .i64 a, .string rs, .int .i64 mn, va, vc] 43) := (heap_setCell_same w6 _ 0 _ _ _ k2).trans (by simp)
  have e2 : ((w6.setCell ⟨w0.heap.size + 1, 0, none⟩ (.int .i64 a)).setCell ⟨w0.heap.size + 1, 2, none⟩ (.int .i64 b)).heap[w0.heap.size + 1]? = some (.cells #[.int .i64 a, .string rs, .int .i64 b, va, vc] 43) := (heap_setCell_same _ _ 2 _ _ _ e1).trans (by simp)
  have g := grownBy_trans (grown_set w6 (w0.heap.size + 1) 0 (.int .i64 a)) (grown_set _ (w0.heap.size + 1) 2 (.int .i64 b))
  exact ⟨m, t, n, vf, fr, vb, a, rs, b, va, vc, (g.block _ (Array.getElem?_eq_some_iff.1 k1).1 (by simp)).trans k1, e2, z1, z2, z3, ((hb.setCell (by simp) _).setCell (by simp) _).drew⟩

set_option maxRecDepth 100000 in
theorem lineFormat_core (rm rt : ByteArray) (rn : Int) (vf : Value) (x : List Fld) (fr : Bool) (vb : Value) (b : List UInt8) (st : Int) (rs : ByteArray) (mn : Int) (va : Value) (y : List Fld) (vc : Value) (d : List UInt8) (vl : Value) (l : List Int) (raw : Bool) (w : World) (hE : EnvP w)
    (HF0 : RdF w vf x) (HB0 : RdB w vb b) (HF1 : RdF w va y) (HB1 : RdB w vc d) (Hl : RdI w vl l) (h1 : rm.size ≤ 1048576) (h2 : rt.size ≤ 1048576) (h3 : rs.size ≤ 1048576) (hrn : In64 rn) (hst : In64 st) (hmn : In64 mn) :
    Calls Tryd.prog 6 #[.agg #[.string rm, .string rt, .int .i64 rn, vf, .bool fr, vb], .agg #[.int .i64 st, .string rs, .int .i64 mn, va, vc], vl, .bool raw] w fun e w' => e = .returned (.bool true) ∧ Below w.heap.size w w' := by
  obtain ⟨⟨al, cl, rfl, h11, h12, h13, hc⟩, hin⟩ := Hl
  have PA := Lib.hid (fun w hE => awake07_calls w hE)
  have HBW := ((Below.refl w.heap.size w).alloc (Nat.le_refl _) (.cells #[.string rm, .string rt, .int .i64 rn, vf, .bool fr, vb] 27)).alloc (by simp) (.cells #[.int .i64 st, .string rs, .int .i64 mn, va, vc] 43)
  have H2 := Lib.hid (heap_two w (.cells #[.string rm, .string rt, .int .i64 rn, vf, .bool fr, vb] 27) (.cells #[.int .i64 st, .string rs, .int .i64 mn, va, vc] 43))
  have HS := Lib.hid (src_newn ((w.alloc (.cells #[.string rm, .string rt, .int .i64 rn, vf, .bool fr, vb] 27)).alloc (.cells #[.int .i64 st, .string rs, .int .i64 mn, va, vc] 43)) al l cl (hc.below HBW) h11 h12 h13 hin (w.heap.size + 2) (by simp))
  clear hc hin h13 HF0 HB0 HF1 HB1
  go_enter Tryd.func6, Tryd.ntmps6
  go_upto_if 10 with fail
  go_cut [4] (fun s4 wx => s4 = .pointer (some ⟨w.heap.size, 0, none⟩) ∧ FmtAt w wx)
  case first =>
    cases raw with
    | true =>
      go_wp2_with fail
      go_meet
      case rel => exact ⟨rfl, rm, rt, rn, vf, fr, vb, st, rs, mn, va, vc, H2.out.1, H2.out.2, by omega, by omega, by omega, HBW⟩
    | false =>
      go_wp2_with fail
      refine (request_calls (w.heap.size + 1 + 1) l _ HS.out).mono ?_
      rintro e w1 ⟨⟨m, t, n, vf1, x1, fr1, vb1, b1, rfl, hm, hof, hob⟩, hg, -⟩
      obtain ⟨hm4, ht8⟩ := made_size hm
      obtain ⟨af, cf, rfl, -, -, -⟩ := owned_slice hof
      obtain ⟨ab, cb, rfl, -, -, -⟩ := owned_slice hob
      obtain ⟨q1, q2⟩ := heap_three w (.cells #[.string rm, .string rt, .int .i64 rn, vf, .bool fr, vb] 27) (.cells #[.int .i64 st, .string rs, .int .i64 mn, va, vc] 43) (.cells #[.slice al l.length cl, .int .i64 0] 30)
      have k1 := grown_at hg q1 (by omega)
      have K2 := Lib.hid (grown_at hg q2 (by omega))
      have HB3 := below_src (HBW.alloc HBW.size _) hg (by omega)
      obtain ⟨⟨c0, c1, c2, c3, c4, c5⟩, ⟨f0, f1, f2, f3, f4, f5⟩, -⟩ := row6 k1
      have K1 := Lib.hid (set6g (.string m) (.string t) (.int .i64 n) (.slice af x1.length cf) (.bool fr1) (.slice ab b1.length cb) k1)
      clear q1 q2 k1 hg hm hof hob H2 HS HBW
      go_upto_region 3 with fail
      obtain ⟨k1, kg⟩ := K1.out
      have k2 := (kg.block _ (Array.getElem?_eq_some_iff.1 K2.out).1 (by simp)).trans K2.out
      have HB4 := Below.grown HB3 kg HB3.size (fun k hk => by have := Option.some.inj hk; omega)
      clear K1 K2 kg c0 c1 c2 c3 c4 c5 f0 f1 f2 f3 f4 f5 HB3
      generalize ((((((w1.setCell ⟨w.heap.size, 0, none⟩ (.string m)).setCell ⟨w.heap.size, 1, none⟩ (.string t)).setCell ⟨w.heap.size, 2, none⟩ (.int .i64 n)).setCell ⟨w.heap.size, 3, none⟩ (.slice af x1.length cf)).setCell ⟨w.heap.size, 4, none⟩ (.bool fr1)).setCell ⟨w.heap.size, 5, none⟩ (.slice ab b1.length cb)) = w6 at k1 k2 HB4 ⊢
      obtain ⟨⟨c0, -, c2, -, -⟩, ⟨f0, -, f2, -, -⟩, -⟩ := row5 k2
      obtain ⟨b1, b2⟩ := within_bd st 520 (by omega)
      have hw1 : IntKind.i64.wrap (90 + within st 520) = 90 + within st 520 := IntWalk.i64_in _ (by omega)
      have K1 := Lib.hid k1
      have K2 := Lib.hid k2
      clear k1 k2
      have HK := Lib.hid (fun a b => FmtAt.put K1.out K2.out (by omega) (by omega) (by omega) HB4 a b)
      go_region_with (first | (go_at_call 20; refine (within_calls _ _ _ (by assumption) (by omega) (by omega)).mono ?_; rintro e w' ⟨rfl, rfl⟩))
      all_goals
        go_wp2_with fail
        go_meet
        case rel => exact ⟨rfl, HK.out _ _⟩
  case rest =>
  obtain ⟨rfl, m, t, n, vf, fr, vb, st, rs, mn, va, vc, q1, q2, z1, z2, z3, HB2⟩ := hcut
  obtain ⟨⟨c0, c1, c2, c3, c4, c5⟩, -, -⟩ := row6 q1
  obtain ⟨⟨d0, d1, d2, d3, d4⟩, -, -⟩ := row5 q2
  have C1 := Lib.hid (fun w hE => fmtReq_calls m t n vf fr vb w hE (by omega) (by omega))
  have C2 := Lib.hid (fun w => refFmtReq_calls m t n vf fr vb w (by omega) (by omega))
  have C3 := Lib.hid (fun w hE => fmtSt_calls st rs mn va vc w hE (by omega))
  have C4 := Lib.hid (fun w => refFmtSt_calls st rs mn va vc w (by omega))
  generalize fmtReq m t n = F1 at C1 C2
  generalize fmtSt st rs mn = F2 at C3 C4
  have e1 : (F1.toList == F1.toList) = true := by simp
  have e2 : (F2.toList == F2.toList) = true := by simp
  have hEx := Lib.hid (fun x : After wc => (hE.below HB2).below x.h)
  have a0 := After.keep c0
  have a1 := After.keep c1
  have a2 := After.keep c2
  have a3 := After.keep c3
  have a4 := After.keep c4
  have a5 := After.keep c5
  have b0 := After.keep d0
  have b1 := After.keep d1
  have b2 := After.keep d2
  have b3 := After.keep d3
  have b4 := After.keep d4
  clear q1 q2 c0 c1 c2 c3 c4 c5 d0 d1 d2 d3 d4 HBW H2 HS
  go_wp2_with fail
  refine wp_region_below (by kernel_rfl) (by kernel_rfl) ?_
  repeat (go_big_quiet_step ((first
    | (go_at_call 28; exact After.call (C1.out _ (hEx.out _)))
    | (go_at_call 12; exact After.call (C2.out _))
    | (go_at_call 29; exact After.call (C3.out _ (hEx.out _)))
    | (go_at_call 19; exact After.call (C4.out _))
    | (go_at_call 18; exact After.call (PA.out _ (hEx.out _).env)))))
  refine wpQuiet_nil ?_
  rintro w9 ⟨x, rfl⟩
  have HB9 := Below.self_trans HB2 x.h
  clear a0 a1 a2 a3 a4 a5 b0 b1 b2 b3 b4 hEx
  go_wp2
  go_ret
  exact ⟨rfl, HB9⟩
end Go.Proofs.YtajohphiclbjkaaDoorRR
