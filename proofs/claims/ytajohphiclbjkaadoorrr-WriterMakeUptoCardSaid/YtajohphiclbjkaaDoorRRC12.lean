/- The core of WriterMake. -/
import Derived.Test.YtajohphiclbjkaaDoorRRW12
import Derived.Test.YtajohphiclbjkaaDoorRRSame
import Derived.Deep.DeepCutAuto
namespace Go.Proofs.YtajohphiclbjkaaDoorRR
open Go.RowKit Go.Own
set_option linter.unusedVariables false
set_option maxHeartbeats 2000000

def statL : List Int := [200, 400, 404, 405, 408, 409, 413, 431, 502, 503, 504, 505, 500, 201]
theorem stat_cell (w : World) (k : Nat) (hk : k < 14) : (w.alloc (.cells (intsV statL).toArray 3)).cell? ⟨w.heap.size, k, none⟩ = some (.int .i64 (statL.getD k 0)) := by
  rw [cellN]
  match k, hk with
  | 0, _ => rfl
  | 1, _ => rfl
  | 2, _ => rfl
  | 3, _ => rfl
  | 4, _ => rfl
  | 5, _ => rfl
  | 6, _ => rfl
  | 7, _ => rfl
  | 8, _ => rfl
  | 9, _ => rfl
  | 10, _ => rfl
  | 11, _ => rfl
  | 12, _ => rfl
  | 13, _ => rfl

set_option maxRecDepth 100000 in
theorem writerMake_core (status : Int) (kind body : ByteArray) (vm : Value) (more : List Fld) (known : Bool) (w : World) (hE : EnvW w) (Hm : RdF w vm more) (h1 : kind.size ≤ 1048576) (h2 : body.size ≤ 1048576) (h3 : more.length ≤ 1000000) (hst : In64 status) :
    Calls Tryd.prog 10 #[.int .i64 status, .string kind, .string body, vm, .bool known] w fun e w' => e = .returned (.bool true) ∧ Below w.heap.size w w' := by
  have HB0 := Below.refl w.heap.size w
  go_enter Tryd.func10, Tryd.ntmps10
  go_upto_if 11 with fail
  go_cut [0] (fun s0 wx => ∃ st : Int, s0 = .int .i64 st ∧ Below w.heap.size w wx)
  case first =>
    cases known with
    | false =>
      go_wp2_with fail
      go_meet
      case rel => exact ⟨status, rfl, HB0⟩
    | true =>
      go_wp2_with fail
      refine (within_calls status 14 _ hst (by omega) (by omega)).mono ?_
      rintro e w1 ⟨rfl, rfl⟩
      obtain ⟨b1, b2⟩ := within_bd status 14 (by omega)
      obtain ⟨k, hk⟩ := Int.eq_ofNat_of_zero_le b1
      rw [hk] at b1 b2 ⊢
      have hk14 : k < 14 := by omega
      have hc := stat_cell w k hk14
      have hc2 : (w.alloc (.cells #[.int .i64 200, .int .i64 400, .int .i64 404, .int .i64 405, .int .i64 408, .int .i64 409, .int .i64 413, .int .i64 431, .int .i64 502, .int .i64 503, .int .i64 504, .int .i64 505, .int .i64 500, .int .i64 201] 3)).cell? ⟨w.heap.size, k, none⟩ = some (.int .i64 (statL.getD k 0)) := hc
      have HB1 := HB0.alloc (Nat.le_refl _) (.cells #[.int .i64 200, .int .i64 400, .int .i64 404, .int .i64 405, .int .i64 408, .int .i64 409, .int .i64 413, .int .i64 431, .int .i64 502, .int .i64 503, .int .i64 504, .int .i64 505, .int .i64 500, .int .i64 201] 3)
      generalize (w.alloc (.cells #[.int .i64 200, .int .i64 400, .int .i64 404, .int .i64 405, .int .i64 408, .int .i64 409, .int .i64 413, .int .i64 431, .int .i64 502, .int .i64 503, .int .i64 504, .int .i64 505, .int .i64 500, .int .i64 201] 3)) = w1 at hc2 HB1 ⊢
      generalize statL.getD k 0 = st at hc2
      clear hk hc hk14
      go_wp2_with fail
      go_meet
      case rel => exact ⟨st, rfl, HB1⟩
  case rest =>
  obtain ⟨st, rfl, HB1⟩ := hcut
  have C1 := Lib.hid (fun w hE Hm => make_calls st kind body vm more w hE Hm (by omega) (by omega) h3)
  have C2 := Lib.hid (fun w Hm => refMake_calls st kind body vm more w Hm (by omega) (by omega) h3)
  have C3 := Lib.hid (fun w hE Hm => text_calls12 st body vm more w hE Hm (by omega) h3)
  have C4 := Lib.hid (fun w Hm => refText_calls st body vm more w Hm (by omega) h3)
  have C5 := Lib.hid (fun w hE => reason_calls st w hE)
  have C6 := Lib.hid (fun w => refReason_calls st w)
  have C7 := Lib.hid (fun w hE => awake12_calls w hE)
  have CS := Lib.hid (fun r n va va' vb vb' l b w Ha Ha' Hb Hb' => sameRep_calls n r 1 va va' vb vb' l b w Ha Ha' Hb Hb')
  generalize reasonOf st = R at *
  generalize makeF kind body.size more = F1 at *
  generalize makeF sTP body.size more = F2 at *
  have eR : (R.toList == R.toList) = true := by simp
  clear HB0 h1 h2 h3
  go_wp2_with fail
  refine (C1.out _ (hE.below HB1) (Hm.below HB1)).mono ?_
  rintro e w1 ⟨⟨vf1, vb1, rfl, hf1, hm1⟩, hb1⟩
  have HB2 := Below.self_trans HB1 hb1
  have G1 := hf1.rd
  have G2 := hm1.rd
  clear hf1 hm1 hb1 HB1
  go_wp2_with fail
  refine (C2.out _ (Hm.below HB2)).mono ?_
  rintro e w2 ⟨⟨vf2, vb2, rfl, hf1, hm1⟩, hb2⟩
  have HB3 := Below.self_trans HB2 hb2
  have G3 := hf1.rd
  have G4 := hm1.rd
  have G1 := RdF.below G1 hb2
  have G2 := RdB.below G2 hb2
  clear hf1 hm1 hb2 HB2
  go_wp2_with fail
  refine (CS.out _ _ _ _ _ _ _ _ _ G1 G3 G2 G4).mono ?_
  rintro e w3 ⟨rfl, hb3⟩
  have HB4 := Below.self_trans HB3 hb3
  clear G1 G2 G3 G4 hb3 HB3
  go_wp2_with fail
  refine (C3.out _ (hE.below HB4) (Hm.below HB4)).mono ?_
  rintro e w4 ⟨⟨vf3, vb3, rfl, hf1, hm1⟩, hb1⟩
  have HB5 := Below.self_trans HB4 hb1
  have G1 := hf1.rd
  have G2 := hm1.rd
  clear hf1 hm1 hb1 HB4
  go_wp2_with fail
  refine (C4.out _ (Hm.below HB5)).mono ?_
  rintro e w5 ⟨⟨vf4, vb4, rfl, hf1, hm1⟩, hb2⟩
  have HB6 := Below.self_trans HB5 hb2
  have G3 := hf1.rd
  have G4 := hm1.rd
  have G1 := RdF.below G1 hb2
  have G2 := RdB.below G2 hb2
  clear hf1 hm1 hb2 HB5
  go_wp2_with fail
  refine (CS.out _ _ _ _ _ _ _ _ _ G1 G3 G2 G4).mono ?_
  rintro e w6 ⟨rfl, hb3⟩
  have HB7 := Below.self_trans HB6 hb3
  clear G1 G2 G3 G4 hb3 HB6
  go_wp2_with fail
  refine (C5.out _ (hE.below HB7)).mono ?_
  rintro e w7 ⟨rfl, hb⟩
  have HB8 := Below.self_trans HB7 hb
  clear hb HB7
  go_wp2_with fail
  refine (C6.out _).mono ?_
  rintro e w8 ⟨rfl, rfl⟩
  go_wp2_with fail
  refine (C7.out _ (hE.below HB8)).mono ?_
  rintro e w9 ⟨rfl, hb⟩
  have HB9 := Below.self_trans HB8 hb
  clear hb HB8
  go_wp2
  go_ret
  exact ⟨rfl, HB9⟩
end Go.Proofs.YtajohphiclbjkaaDoorRR
