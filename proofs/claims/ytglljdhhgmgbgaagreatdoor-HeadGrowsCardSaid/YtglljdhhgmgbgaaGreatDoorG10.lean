/- The core of HeadGrows. -/
import Derived.Test.YtglljdhhgmgbgaaGreatDoorP10
namespace Go.Proofs.YtglljdhhgmgbgaaGreatDoor
open Go.RowKit Go.Own
set_option linter.unusedVariables false
set_option maxHeartbeats 4000000

theorem endV_none' {b : List UInt8} (h : endP b = -1) (hb : b.length ≤ 700) : endV b 10000 = (0, 4) := by
  unfold endV; rw [if_neg (by omega), if_neg (by omega)]
theorem endV_some' {b : List UInt8} {i : Nat} (h : endP b = i) (hb : b.length ≤ 700) : endV b 10000 = ((i : Int), 0) := by
  have := endP_le b
  unfold endV; rw [if_pos (by omega), h]
theorem take_rd {w : World} {a : Option Addr} {n cap : Nat} {b : List UInt8} (h : RdB w (.slice a n cap) b) (k : Nat) (hk : k ≤ b.length) : RdB w (.slice a k cap) (b.take k) := by
  obtain ⟨_, _, e, h1, h2, h3, h4⟩ := h
  cases e
  have e : (bytesV b).take k = bytesV (b.take k) := by simp [bytesV, List.map_take]
  have e2 : (b.take k).length = k := by rw [List.length_take]; omega
  unfold RdB
  rw [← e, e2]
  exact ⟨a, cap, rfl, by omega, h2, h3, h4.take k⟩

set_option maxRecDepth 100000 in
theorem headGrows_core (vl : Value) (l : List Int) (n : Int) (w : World) (hE : EnvP w) (Hl : RdI w vl l) (hn : In64 n) :
    Calls Tryz.prog 4 #[vl, .int .i64 n] w fun e w' => e = .returned (.bool true) ∧ Below w.heap.size w w' := by
  have HW := Lib.hid (wire_calls vl l false 0 0 w Hl (by unfold In64; omega))
  have PA := Lib.hid (fun w hE => awake10_calls w hE)
  obtain ⟨⟨al, cl, rfl, -, -, -, -⟩, -⟩ := id Hl
  clear Hl
  go_enter Tryz.func4, Tryz.ntmps4
  go_wp2_with fail
  refine HW.out.mono ?_
  rintro e w1 ⟨⟨v1, rfl, b, hm1, -, hl1⟩, hb1⟩
  have HR := Lib.hid hm1.rd
  obtain ⟨gb, cb, rfl, -, -, q3, -, -, -⟩ := id hm1
  clear hm1 HW
  have HC1 := Lib.hid (hend_calls (.slice (some ⟨gb, 0, none⟩) b.length cb) b 10000 w1 (hE.env.below hb1) HR.out (by omega))
  have hw := within_bd n ((b.length : Int) + 1) (by omega)
  obtain ⟨k, hk⟩ := Int.eq_ofNat_of_zero_le hw.1
  have hkl : k ≤ b.length := by have := hw.2; omega
  have HWC := Lib.hid (fun w => within_calls n ((b.length : Int) + 1) w hn (by omega) (by omega))
  rw [hk] at HWC
  have hkc : (k : Int) ≤ (cb : Int) := by omega
  have HC2 := Lib.hid (fun w hE H => hend_calls (.slice (some ⟨gb, 0, none⟩) k cb) (b.take k) 10000 w hE H (by rw [List.length_take]; omega))
  have HT := Lib.hid (fun (h : endP b = -1) => endV_none' ((endP_take (n := k) hkl).1 h) (by rw [List.length_take]; omega))
  have HT1 := Lib.hid (fun (i : Nat) (h : endP b = i) (h2 : k < i) => endV_none' (((endP_take (n := k) hkl).2 i h).1 h2) (by rw [List.length_take]; omega))
  have HT2 := Lib.hid (fun (i : Nat) (h : endP b = i) (h2 : i ≤ k) => endV_some' (((endP_take (n := k) hkl).2 i h).2 h2) (by rw [List.length_take]; omega))
  have HTR := Lib.hid (fun w (h : RdB w (.slice (some ⟨gb, 0, none⟩) b.length cb) b) => take_rd h k hkl)
  clear hw hk hn
  generalize b.take k = bt at HC2 HT HT1 HT2 HTR
  have run : ∀ (E1 E2 : Int × Int), endV b 10000 = E1 → endV bt 10000 = E2 → (E1 = (0, 4) ∧ E2 = (0, 4)) ∨ (∃ i : Nat, E1 = ((i : Int), 0) ∧ (k < i ∧ E2 = (0, 4) ∨ i ≤ k ∧ E2 = ((i : Int), 0))) := by
    intro E1 E2 h1 h2
    rcases endP_cases b with ⟨hp, -⟩ | ⟨i, hp, -, -⟩
    · exact Or.inl ⟨by rw [← h1, endV_none' hp hl1], by rw [← h2, HT.out hp]⟩
    · refine Or.inr ⟨i + 4, by rw [← h1, endV_some' hp hl1], ?_⟩
      by_cases hki : k < i + 4
      · exact Or.inl ⟨hki, by rw [← h2, HT1.out _ hp hki]⟩
      · exact Or.inr ⟨by omega, by rw [← h2, HT2.out _ hp (by omega)]⟩
  obtain ⟨⟨n1, e1⟩, hE1⟩ : ∃ E, endV b 10000 = E := ⟨_, rfl⟩
  obtain ⟨⟨n2, e2⟩, hE2⟩ : ∃ E, endV bt 10000 = E := ⟨_, rfl⟩
  have hcase := run _ _ hE1 hE2
  rw [hE1] at HC1
  rw [hE2] at HC2
  simp only at HC1 HC2
  clear run hE1 hE2 HT HT1 HT2 hkl
  rcases hcase with ⟨h1, h2⟩ | ⟨i, h1, ⟨hki, h2⟩ | ⟨hki, h2⟩⟩
  all_goals
    obtain ⟨rfl, rfl⟩ := Prod.mk.inj h1
    obtain ⟨rfl, rfl⟩ := Prod.mk.inj h2
    clear h1 h2
  · go_wp2_with fail
    refine HC1.out.mono ?_
    rintro e w2 ⟨rfl, hb2⟩
    have HB2 := Lib.hid (Below.self_trans hb1 hb2)
    have HR2 := Lib.hid (HTR.out _ (HR.out.below hb2))
    clear hb2 hb1 HC1
    go_wp2_with fail
    refine (HWC.out _).mono ?_
    rintro e w3 ⟨rfl, rfl⟩
    go_wp2_with fail
    refine (HC2.out _ (hE.env.below HB2.out) HR2.out).mono ?_
    rintro e w3 ⟨rfl, hb3⟩
    have HB3 := Lib.hid (Below.self_trans HB2.out hb3)
    clear hb3 HB2 HC2 HR2
    go_wp2_with fail
    refine (PA.out _ (hE.below HB3.out)).mono ?_
    rintro e w4 ⟨rfl, hb4⟩
    have HB4 := Below.self_trans HB3.out hb4
    clear hb4
    go_wp2
    go_ret
    exact ⟨rfl, HB4⟩
  · have hki2 : (k : Int) < (i : Int) := by omega
    go_wp2_with fail
    refine HC1.out.mono ?_
    rintro e w2 ⟨rfl, hb2⟩
    have HB2 := Lib.hid (Below.self_trans hb1 hb2)
    have HR2 := Lib.hid (HTR.out _ (HR.out.below hb2))
    clear hb2 hb1 HC1
    go_wp2_with fail
    refine (HWC.out _).mono ?_
    rintro e w3 ⟨rfl, rfl⟩
    go_wp2_with fail
    refine (HC2.out _ (hE.env.below HB2.out) HR2.out).mono ?_
    rintro e w3 ⟨rfl, hb3⟩
    have HB3 := Lib.hid (Below.self_trans HB2.out hb3)
    clear hb3 HB2 HC2 HR2
    go_wp2_with fail
    refine (PA.out _ (hE.below HB3.out)).mono ?_
    rintro e w4 ⟨rfl, hb4⟩
    have HB4 := Below.self_trans HB3.out hb4
    clear hb4
    go_wp2
    go_ret
    exact ⟨rfl, HB4⟩
  · have hki2 : ¬ (k : Int) < (i : Int) := by omega
    have hii : ((i : Int) == (i : Int)) = true := by simp
    go_wp2_with fail
    refine HC1.out.mono ?_
    rintro e w2 ⟨rfl, hb2⟩
    have HB2 := Lib.hid (Below.self_trans hb1 hb2)
    have HR2 := Lib.hid (HTR.out _ (HR.out.below hb2))
    clear hb2 hb1 HC1
    go_wp2_with fail
    refine (HWC.out _).mono ?_
    rintro e w3 ⟨rfl, rfl⟩
    go_wp2_with fail
    refine (HC2.out _ (hE.env.below HB2.out) HR2.out).mono ?_
    rintro e w3 ⟨rfl, hb3⟩
    have HB3 := Lib.hid (Below.self_trans HB2.out hb3)
    clear hb3 HB2 HC2 HR2
    go_wp2_with fail
    refine (PA.out _ (hE.below HB3.out)).mono ?_
    rintro e w4 ⟨rfl, hb4⟩
    have HB4 := Below.self_trans HB3.out hb4
    clear hb4
    go_wp2
    go_ret
    exact ⟨rfl, HB4⟩
end Go.Proofs.YtglljdhhgmgbgaaGreatDoor
