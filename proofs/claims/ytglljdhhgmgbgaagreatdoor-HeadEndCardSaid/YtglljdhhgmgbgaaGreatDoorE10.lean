/- The core of HeadEnd. -/
import Derived.Test.YtglljdhhgmgbgaaGreatDoorP10
namespace Go.Proofs.YtglljdhhgmgbgaaGreatDoor
open Go.RowKit Go.Own
set_option linter.unusedVariables false
set_option maxHeartbeats 4000000

set_option maxRecDepth 100000 in
theorem headEnd_core (vl : Value) (l : List Int) (at0 : Int) (c : UInt8) (vr : Value) (raw : List UInt8) (vm : Value) (more : List UInt8) (most : Int) (wild : Bool) (w : World) (hE : EnvP w) (Hl : RdI w vl l) (Hr : RdB w vr raw) (Hm : RdB w vm more) (hat : In64 at0) (hmo : In64 most) :
    Calls Tryz.prog 3 #[vl, .int .i64 at0, .int .u8 (c.toNat : Int), vr, vm, .int .i64 most, .bool wild] w fun e w' => e = .returned (.bool true) ∧ Below w.heap.size w w' := by
  have HW := Lib.hid (wire_calls vl l false at0 c w Hl hat)
  have PA := Lib.hid (fun w hE => awake10_calls w hE)
  obtain ⟨⟨al, cl, rfl, -, -, -, -⟩, -⟩ := id Hl
  obtain ⟨ar, cr, rfl, g1, g2, -, -⟩ := id Hr
  obtain ⟨am, cm, rfl, k1, k2, k3, -⟩ := id Hm
  have hg2 : cr ≤ 9223372036854775807 := by simpa [maxLen] using g2
  have hk2 : cm ≤ 9223372036854775807 := by simpa [maxLen] using k2
  have HSR := Lib.hid (fun w => short_calls ar raw.length cr 300 w g1 hg2 (by omega))
  have HSM := Lib.hid (fun w => short_calls am more.length cm 30 w k1 hk2 (by omega))
  have HMO := Lib.hid hmo
  clear Hl hat hg2 hk2 g1 g2 k1 k2 k3 hmo
  go_enter Tryz.func3, Tryz.ntmps3
  go_wp2_with fail
  refine HW.out.mono ?_
  rintro e w1 ⟨⟨v1, rfl, b1, hm1, -, hl1⟩, hb1⟩
  have HRR := Lib.hid (Hr.below hb1)
  have HRM := Lib.hid (short_rd (m := 30) (Hm.below hb1))
  obtain ⟨gb, cb, rfl, -, -, -, -, -, -⟩ := id hm1
  have hz1 := hb1.size
  clear HW Hm
  go_wp2_with fail
  refine (HSM.out _).mono ?_
  rintro e w2 ⟨rfl, hw2⟩
  rw [hw2]
  clear hw2
  obtain ⟨_, _, e9, g1, g2, g3, g4⟩ := HRM.out
  injection e9 with e1 e2 e3
  subst e1 e3
  clear e2
  have HML := Lib.hid (show (more.take 30).length = min more.length 30 by rw [List.length_take, Nat.min_comm])
  have hcm : min more.length 30 ≤ cm := by have := HML.out; omega
  go_upto_if 27 with (at_builtin; refine wpList_append_mut rfl (.tmp 23) (.tmp 25) 23 rfl hb1 hz1 5 Tryz.underlying23 info_u8 (.slice (some ⟨gb, 0, none⟩) b1.length cb) b1 rfl hm1 am (min more.length 30) cm (more.take 30) rfl HML.out g3 hcm g4 (by omega) ?_; intro v3 w3 hb3 hm3)
  obtain ⟨g3', c3', rfl, -, -, -, -, -, -⟩ := id hm3
  have HR3 := Lib.hid hm3.rd
  have hz3 : (b1 ++ more.take 30).length ≤ 730 := by rw [List.length_append, List.length_take]; omega
  generalize b1 ++ more.take 30 = b3 at HR3 hz3 ⊢
  have HRR3 := Lib.hid Hr
  go_cut [5, 15] (fun s5 s15 wx => SomeB wx s15 730 ∧ (∃ mo, s5 = .int .i64 mo) ∧ Below w.heap.size w wx)
  case first =>
    cases wild with
    | false =>
      go_wp2_with fail
      refine (within_calls most ((b3.length : Int) + 20) _ HMO.out (by omega) (by omega)).mono ?_
      rintro e w4 ⟨rfl, rfl⟩
      go_wp2
      go_meet
      case rel => exact ⟨⟨_, HR3.out, hz3⟩, ⟨_, rfl⟩, hb3⟩
    | true =>
      have HRX := Lib.hid (short_rd (m := 300) (HRR3.out.below hb3))
      go_wp2_with fail
      refine (HSR.out _).mono ?_
      rintro e w4 ⟨rfl, hw4⟩
      rw [hw4]
      clear hw4
      go_wp2
      go_meet
      case rel => exact ⟨⟨_, HRX.out, by rw [List.length_take]; omega⟩, ⟨_, rfl⟩, hb3⟩
  case rest =>
  obtain ⟨⟨b, hb, hbl⟩, ⟨mo, rfl⟩, HB⟩ := hcut
  obtain ⟨a15, c15, rfl, -, -, -, -⟩ := id hb
  have HBB := Lib.hid hb
  have C1 := Lib.hid (fun w hE H => hend_calls (.slice a15 b.length c15) b mo w hE H (by omega))
  have C2 := Lib.hid (fun w H => rEnd_calls (.slice a15 b.length c15) b mo w H (by omega))
  generalize endV b mo = q at C1 C2
  obtain ⟨n, e⟩ := q
  simp only at C1 C2
  have e1 : (n == n) = true := by simp
  have e2 : (e == e) = true := by simp
  clear hb hbl hb3 hm3 HR3 hz3 HRR3 HSR HSM HMO HML
  go_wp2_with fail
  refine (C1.out _ (hE.env.below HB) HBB.out).mono ?_
  rintro e' w5 ⟨rfl, hb5⟩
  have HB5 := Lib.hid (Below.self_trans HB hb5)
  have HBB5 := Lib.hid (HBB.out.below hb5)
  clear hb5 HB HBB C1
  go_wp2_with fail
  refine (C2.out _ HBB5.out).mono ?_
  rintro e' w6 ⟨rfl, hb6⟩
  have HB6 := Lib.hid (Below.self_trans HB5.out hb6)
  clear hb6 HB5 HBB5 C2
  go_wp2_with fail
  refine (PA.out _ (hE.below HB6.out)).mono ?_
  rintro e' w7 ⟨rfl, hb7⟩
  have HB7 := Below.self_trans HB6.out hb7
  clear hb7
  go_wp2
  go_ret
  exact ⟨rfl, HB7⟩
end Go.Proofs.YtglljdhhgmgbgaaGreatDoor
