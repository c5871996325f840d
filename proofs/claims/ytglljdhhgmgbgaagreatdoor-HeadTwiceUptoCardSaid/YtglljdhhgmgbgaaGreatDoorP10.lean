/- The core of HeadParse. -/
import Derived.Test.YtglljdhhgmgbgaaGreatDoorW10
import Derived.Test.YtglljdhhgmgbgaaGreatDoorAw10
import Derived.Test.YtglljdhhgmgbgaaGreatDoorHeadU
import Derived.Test.YtglljdhhgmgbgaaGreatDoorSame
import Derived.Test.YtglljdhhgmgbgaaGreatDoorL06
namespace Go.Proofs.YtglljdhhgmgbgaaGreatDoor
open Go.RowKit Go.Own
set_option linter.unusedVariables false
set_option maxHeartbeats 4000000

/-- bytes to be read -/
def SomeB (w : World) (v : Value) (n : Nat) : Prop := ∃ b, RdB w v b ∧ b.length ≤ n
theorem SomeB.of {B : Nat} {w : World} {v : Value} {n : Nat} (h : WireB B w v n) : SomeB w v n := by
  obtain ⟨b, h1, -, h3⟩ := h
  exact ⟨b, h1.rd, h3⟩
theorem short_rd {w : World} {a : Option Addr} {cap : Nat} {raw : List UInt8} {m : Nat} (h : RdB w (.slice a raw.length cap) raw) : RdB w (.slice a (min raw.length m) cap) (raw.take m) := by
  obtain ⟨_, _, e, h1, h2, h3, h4⟩ := h
  cases e
  have e : (bytesV raw).take m = bytesV (raw.take m) := by simp [bytesV, List.map_take]
  have e2 : (raw.take m).length = min raw.length m := by rw [List.length_take, Nat.min_comm]
  unfold RdB
  rw [← e, e2]
  have h5 := h4.take m
  exact ⟨a, cap, rfl, by omega, h2, h3, h5⟩

set_option maxRecDepth 100000 in
theorem headParse_core (vl : Value) (l : List Int) (reply : Bool) (at0 : Int) (c : UInt8) (vr : Value) (raw : List UInt8) (wild : Bool) (w : World) (hE : EnvP w) (Hl : RdI w vl l) (Hr : RdB w vr raw) (hat : In64 at0) :
    Calls Tryz.prog 6 #[vl, .bool reply, .int .i64 at0, .int .u8 (c.toNat : Int), vr, .bool wild] w fun e w' => e = .returned (.bool true) ∧ Below w.heap.size w w' := by
  have HW := Lib.hid (wire_calls vl l reply at0 c w Hl hat)
  have PA := Lib.hid (fun w hE => awake10_calls w hE)
  obtain ⟨⟨al, cl, rfl, -, -, -, -⟩, -⟩ := id Hl
  obtain ⟨ar, cr, rfl, g1, g2, -, -⟩ := id Hr
  have hg2 : cr ≤ 9223372036854775807 := by simpa [maxLen] using g2
  have HSH := Lib.hid (fun w => short_calls ar raw.length cr 300 w g1 hg2 (by omega))
  clear Hl hat hg2 g1 g2
  go_enter Tryz.func6, Tryz.ntmps6
  go_wp2_with fail
  refine HW.out.mono ?_
  rintro e w1 ⟨⟨v1, rfl, hw1⟩, hb1⟩
  have HSB := Lib.hid (SomeB.of hw1)
  have HRR := Lib.hid (Hr.below hb1)
  obtain ⟨b1, hm1, -, -⟩ := hw1
  obtain ⟨gb, cb, rfl, -, -, -, -, -, -⟩ := hm1
  clear HW Hr
  go_upto_if 27 with fail
  go_cut [13] (fun s13 wx => SomeB wx s13 700 ∧ Below w.heap.size w wx)
  case first =>
    cases wild with
    | false =>
      go_wp2_with fail
      go_meet
      case rel => exact ⟨HSB.out, hb1⟩
    | true =>
      go_wp2_with fail
      refine (HSH.out _).mono ?_
      rintro e w2 ⟨rfl, hw2⟩
      rw [hw2]
      clear hw2
      go_wp2
      go_meet
      case rel => exact ⟨⟨_, short_rd HRR.out, by rw [List.length_take]; omega⟩, hb1⟩
  case rest =>
  obtain ⟨⟨b, hb, hbl⟩, HB⟩ := hcut
  have C1 := Lib.hid (fun w hE H => hreq_calls u13 b w hE H (by omega))
  have C2 := Lib.hid (fun w H => rreq_calls u13 b w H (by omega))
  have C3 := Lib.hid (fun w hE H => hrep_calls u13 b w hE H (by omega))
  have C4 := Lib.hid (fun w H => rrep_calls u13 b w H (by omega))
  generalize reqB b = q at C1 C2
  obtain ⟨⟨m, t, n, x⟩, k⟩ := q
  generalize repB b = q at C3 C4
  obtain ⟨⟨st, rs, mn, y⟩, k2⟩ := q
  obtain ⟨a13, c13, rfl, -, -, -, -⟩ := id hb
  have HBB := Lib.hid hb
  clear hb hbl HSB HRR HSH hb1
  have ek : (k == k) = true := by simp
  have ek2 : (k2 == k2) = true := by simp
  go_wp2_with fail
  refine (C1.out _ (hE.env.below HB) HBB.out).mono ?_
  rintro e x1 ⟨⟨vx, rfl, hx⟩, hb1⟩
  have hx := OwnF.rd hx
  obtain ⟨ax, cx, rfl, -, -, -, -⟩ := id hx
  simp only
  have HX := box_one (w1 := x1) (.cells #[.string m, .string t, .int .i64 n, .slice ax x.length cx, .bool false, .slice none 0 0] 35)
  have HG1 := Lib.hid (heap_alloc_new x1 (.cells #[.string m, .string t, .int .i64 n, .slice ax x.length cx, .bool false, .slice none 0 0] 35))
  have HB1 := Lib.hid (Below.self_trans (Below.self_trans HB hb1) HX)
  have HX1 := Lib.hid (hx.below HX)
  have HBB := Lib.hid ((HBB.out.below hb1).below HX)
  clear hx hb1 HX HB C1
  go_wp2_with fail
  refine (C2.out _ HBB.out).mono ?_
  rintro e x2 ⟨⟨vx2, rfl, hx2⟩, hb2⟩
  have hx2 := OwnF.rd hx2
  obtain ⟨ax2, cx2, rfl, -, -, -, -⟩ := id hx2
  simp only
  have HX := box_one (w1 := x2) (.cells #[.string m, .string t, .int .i64 n, .slice ax2 x.length cx2, .bool false, .slice none 0 0] 35)
  have HG1 := Lib.hid (row_below (row_below HG1.out hb2) HX)
  have HG2 := Lib.hid (heap_alloc_new x2 (.cells #[.string m, .string t, .int .i64 n, .slice ax2 x.length cx2, .bool false, .slice none 0 0] 35))
  have HB2 := Lib.hid (Below.self_trans (Below.self_trans HB1.out hb2) HX)
  have HX1 := Lib.hid ((HX1.out.below hb2).below HX)
  have HX2 := Lib.hid (hx2.below HX)
  have HBB := Lib.hid ((HBB.out.below hb2).below HX)
  clear hx2 hb2 HX HB1 C2
  go_wp2_with fail
  refine (C3.out _ (hE.env.below HB2.out) HBB.out).mono ?_
  rintro e x3 ⟨⟨vy, rfl, hy⟩, hb3⟩
  have hy := OwnF.rd hy
  obtain ⟨ay, cy, rfl, -, -, -, -⟩ := id hy
  simp only
  have HX := box_one (w1 := x3) (.cells #[.int .i64 st, .string rs, .int .i64 mn, .slice ay y.length cy, .slice none 0 0] 37)
  have HG1 := Lib.hid (row_below (row_below HG1.out hb3) HX)
  have HG2 := Lib.hid (row_below (row_below HG2.out hb3) HX)
  have HG3 := Lib.hid (heap_alloc_new x3 (.cells #[.int .i64 st, .string rs, .int .i64 mn, .slice ay y.length cy, .slice none 0 0] 37))
  have HB3 := Lib.hid (Below.self_trans (Below.self_trans HB2.out hb3) HX)
  have HX1 := Lib.hid ((HX1.out.below hb3).below HX)
  have HX2 := Lib.hid ((HX2.out.below hb3).below HX)
  have HY1 := Lib.hid (hy.below HX)
  have HBB := Lib.hid ((HBB.out.below hb3).below HX)
  clear hy hb3 HX HB2 C3
  go_wp2_with fail
  refine (C4.out _ HBB.out).mono ?_
  rintro e x4 ⟨⟨vy2, rfl, hy2⟩, hb4⟩
  have hy2 := OwnF.rd hy2
  obtain ⟨ay2, cy2, rfl, -, -, -, -⟩ := id hy2
  simp only
  have HX := box_one (w1 := x4) (.cells #[.int .i64 st, .string rs, .int .i64 mn, .slice ay2 y.length cy2, .slice none 0 0] 37)
  have HG1 := Lib.hid (row_below (row_below HG1.out hb4) HX)
  have HG2 := Lib.hid (row_below (row_below HG2.out hb4) HX)
  have HG3 := Lib.hid (row_below (row_below HG3.out hb4) HX)
  have HG4 := Lib.hid (heap_alloc_new x4 (.cells #[.int .i64 st, .string rs, .int .i64 mn, .slice ay2 y.length cy2, .slice none 0 0] 37))
  have HB4 := Lib.hid (Below.self_trans (Below.self_trans HB3.out hb4) HX)
  have HX1 := Lib.hid ((HX1.out.below hb4).below HX)
  have HX2 := Lib.hid ((HX2.out.below hb4).below HX)
  have HY1 := Lib.hid ((HY1.out.below hb4).below HX)
  have HY2 := Lib.hid (hy2.below HX)
  obtain ⟨⟨p0, p1, p2, p3, p4, p5⟩, -, -⟩ := row6 HG1.out
  obtain ⟨⟨r0, r1, r2, r3, r4, r5⟩, -, -⟩ := row6 HG2.out
  clear hy2 hb4 HX HB3 C4 HBB
  go_wp2_with fail
  refine (sameReq_calls m t n false _ _ _ _ x [] _ HX1.out HX2.out (RdB_nil _) (RdB_nil _)).mono ?_
  rintro e x5 ⟨rfl, hb5⟩
  have HG3 := row_below HG3.out hb5
  have HG4 := row_below HG4.out hb5
  have HB5 := Lib.hid (Below.self_trans HB4.out hb5)
  have HY1 := Lib.hid (HY1.out.below hb5)
  have HY2 := Lib.hid (HY2.out.below hb5)
  obtain ⟨⟨i0, i1, i2, i3, i4⟩, -, -⟩ := row5 HG3
  obtain ⟨⟨j0, j1, j2, j3, j4⟩, -, -⟩ := row5 HG4
  clear hb5 HB4 HX1 HX2 HG1 HG2 HG3 HG4 p0 p1 p2 p3 p4 p5 r0 r1 r2 r3 r4 r5
  go_wp2_with fail
  refine (sameRep_calls st rs mn _ _ _ _ y [] _ HY1.out HY2.out (RdB_nil _) (RdB_nil _)).mono ?_
  rintro e x6 ⟨rfl, hb6⟩
  have HB6 := Lib.hid (Below.self_trans HB5.out hb6)
  clear hb6 HB5 HY1 HY2 i0 i1 i2 i3 i4 j0 j1 j2 j3 j4
  go_wp2_with fail
  refine (PA.out _ (hE.below HB6.out)).mono ?_
  rintro e x7 ⟨rfl, hb7⟩
  have HB7 := Below.self_trans HB6.out hb7
  clear hb7 HB6
  go_wp2
  go_ret
  exact ⟨rfl, HB7⟩
end Go.Proofs.YtglljdhhgmgbgaaGreatDoor
