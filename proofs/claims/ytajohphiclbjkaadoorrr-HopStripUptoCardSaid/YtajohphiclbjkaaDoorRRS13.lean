/- The core of HopStrip. -/
import Derived.Test.YtajohphiclbjkaaDoorRRX13
namespace Go.Proofs.YtajohphiclbjkaaDoorRR
open Go.RowKit Go.Own
set_option linter.unusedVariables false
set_option maxHeartbeats 2000000

set_option maxRecDepth 100000 in
theorem hopStrip_core (vl : Value) (l : List Int) (vr : Value) (raw : List Fld) (wild : Bool) (w : World) (hE : EnvP w) (Hl : RdI w vl l) (Hr : RdF w vr raw) (hx : fsize raw ≤ 1500000) :
    Calls Tryd.prog 8 #[vl, vr, .bool wild] w fun e w' => e = .returned (.bool true) ∧ Below w.heap.size w w' := by
  have CA := Lib.hid (fun w hE => awake13_calls w hE)
  have HR := Lib.hid Hr
  obtain ⟨ar, cr, rfl, -⟩ := Hr
  go_enter Tryd.func8, Tryd.ntmps8
  go_wp2_with fail
  refine (made13_calls vl l _ Hl).mono ?_
  rintro e w1 ⟨⟨v1, x1, rfl, hown, hsm, hxl⟩, hb1⟩
  have H1 := Lib.hid (show RdF w1 v1 x1 from hown.rd)
  have hf1 := small_fsize hsm hxl
  have HB := Lib.hid hb1
  obtain ⟨a1, c1, rfl, -, -, -⟩ := owned_slice hown
  clear hown hsm hxl hb1
  go_upto_if 11 with fail
  go_cut [7] (fun s7 wx => ∃ x a c, s7 = .slice a x.length c ∧ RdF wx (.slice a x.length c) x ∧ fsize x ≤ 1500000 ∧ Below w.heap.size w wx)
  case first =>
    cases wild with
    | true =>
      go_wp2_with fail
      go_meet
      case rel => exact ⟨raw, ar, cr, rfl, HR.out.below HB.out, hx, HB.out⟩
    | false =>
      go_wp2_with fail
      go_meet
      case rel => exact ⟨x1, a1, c1, rfl, H1.out, by omega, HB.out⟩
  case rest =>
  clear HR H1 HB hf1 hx
  obtain ⟨x, a, c, rfl, Hx, hf, HB⟩ := hcut
  have CS := Lib.hid (fun w hE Ha => strip_calls (.slice a x.length c) x w hE Ha (by omega))
  have hf2 := strip_fsize x
  have CS2 := Lib.hid (fun v w hE Ha => strip_calls v (stripS x) w hE Ha (by omega))
  have CR := Lib.hid (fun w Ha => refStrip_calls (.slice a x.length c) x w Ha (by omega))
  have CV := Lib.hid (fun w hE Ha => via_calls (.slice a x.length c) x w hE Ha (by omega))
  have CW := Lib.hid (fun w Ha => refVia_calls (.slice a x.length c) x w Ha (by omega))
  rw [strip_strip] at CS2
  generalize stripS x = SX at CS CS2 CR
  generalize viaS x = VX at CV CW
  clear hf2
  have hln : ∀ k : Nat, x.length = k → (x.length : Int) = k := fun k h => by rw [h]
  by_cases h40 : 40 < x.length
  · have h40i : (40 : Int) < x.length := by omega
    clear CS CS2 CR CV CW hln
    go_wp2_with fail
    refine (CA.out _ (hE.below HB)).mono ?_
    rintro e w2 ⟨rfl, hb2⟩
    have HB2 := Below.self_trans HB hb2
    go_wp2
    go_ret
    exact ⟨rfl, HB2⟩
  · have h40i : ¬ (40 : Int) < x.length := by omega
    clear hln
    go_wp2_with fail
    refine (CS.out _ (hE.below HB).env Hx).mono ?_
    rintro e w2 ⟨⟨v2, rfl, hy⟩, hb⟩
    have HB2 := Below.self_trans HB hb
    have Hx2 := Hx.below hb
    have HY2 := hy.rd
    obtain ⟨a2, c2, rfl, -, -, -⟩ := owned_slice hy
    clear HB hb Hx hy CS
    go_wp2_with fail
    refine (CR.out _ Hx2).mono ?_
    rintro e w3 ⟨⟨v3, rfl, hy⟩, hb⟩
    have HB3 := Below.self_trans HB2 hb
    have Hx3 := Hx2.below hb
    have HY3 := RdF.below HY2 hb
    have HZ3 := hy.rd
    clear HB2 hb Hx2 hy HY2 CR
    go_wp2_with fail
    refine (sameF_calls _ _ SX _ HY3 HZ3).mono ?_
    rintro e w4 ⟨rfl, hb⟩
    have HB4 := Below.self_trans HB3 hb
    have Hx4 := Hx3.below hb
    have HY4 := RdF.below HY3 hb
    clear HB3 hb Hx3 HY3 HZ3
    go_wp2_with fail
    refine (CS2.out _ _ (hE.below HB4).env HY4).mono ?_
    rintro e w5 ⟨⟨v5, rfl, hy⟩, hb⟩
    have HB5 := Below.self_trans HB4 hb
    have Hx5 := Hx4.below hb
    have HY5 := RdF.below HY4 hb
    have HZ5 := hy.rd
    clear HB4 hb Hx4 hy HY4 CS2
    go_wp2_with fail
    refine (sameF_calls _ _ SX _ HZ5 HY5).mono ?_
    rintro e w6 ⟨rfl, hb⟩
    have HB6 := Below.self_trans HB5 hb
    have Hx6 := Hx5.below hb
    clear HB5 hb Hx5 HY5 HZ5
    go_wp2_with fail
    refine (CV.out _ (hE.below HB6).env Hx6).mono ?_
    rintro e w7 ⟨⟨v7, rfl, hy⟩, hb⟩
    have HB7 := Below.self_trans HB6 hb
    have Hx7 := Hx6.below hb
    have HY7 := hy.rd
    clear HB6 hb Hx6 hy CV
    go_wp2_with fail
    refine (CW.out _ Hx7).mono ?_
    rintro e w8 ⟨⟨v8, rfl, hy⟩, hb⟩
    have HB8 := Below.self_trans HB7 hb
    have HY8 := RdF.below HY7 hb
    have HZ8 := hy.rd
    clear HB7 hb Hx7 HY7 hy CW
    go_wp2_with fail
    refine (sameF_calls _ _ VX _ HY8 HZ8).mono ?_
    rintro e w9 ⟨rfl, hb⟩
    have HB9 := Below.self_trans HB8 hb
    clear HB8 hb HY8 HZ8
    go_wp2_with fail
    refine (CA.out _ (hE.below HB9)).mono ?_
    rintro e w10 ⟨rfl, hb⟩
    have HB10 := Below.self_trans HB9 hb
    clear HB9 hb
    go_wp2
    go_ret
    exact ⟨rfl, HB10⟩
end Go.Proofs.YtajohphiclbjkaaDoorRR
