/- number.ParseDecimal and its reference. -/
import Derived.Test.YtglljdhhgmgbgaaGreatDoorPA
import Derived.Test.YtglljdhhgmgbgaaGreatDoorAscii
namespace Go.Proofs.YtglljdhhgmgbgaaGreatDoor
open Go.RowKit Go.Own
set_option linter.unusedVariables false
set_option maxHeartbeats 1000000

theorem digit_calls (c : UInt8) (w : World) :
    Calls Tryz.prog 128 #[.int .u8 (c.toNat : Int)] w fun e w' => e = .returned (.int .i64 (digV c)) ∧ w = w' := by
  have hc := c.toNat_lt
  go_enter Tryz.func128, Tryz.ntmps128
  by_cases h1 : 48 ≤ c.toNat ∧ c.toNat ≤ 57
  · have HV := Lib.hid (show digV c = (c.toNat : Int) - 48 by unfold digV; rw [if_pos h1])
    have a1 : (48 : Int) ≤ (c.toNat : Int) := by omega
    have a2 : (c.toNat : Int) ≤ 57 := by omega
    go_wp2
    go_ret
    exact ⟨by rw [HV.out]; rfl, rfl⟩
  · by_cases h2 : 97 ≤ c.toNat ∧ c.toNat ≤ 102
    · have HV := Lib.hid (show digV c = (c.toNat : Int) - 87 by unfold digV; rw [if_neg h1, if_pos h2])
      have a1 : (97 : Int) ≤ (c.toNat : Int) := by omega
      have a2 : (c.toNat : Int) ≤ 102 := by omega
      go_wp2
      go_ret
      exact ⟨by rw [HV.out]; exact ret_int (by omega), rfl⟩
    · by_cases h3 : 65 ≤ c.toNat ∧ c.toNat ≤ 70
      · have HV := Lib.hid (show digV c = (c.toNat : Int) - 55 by unfold digV; rw [if_neg h1, if_neg h2, if_pos h3])
        have a1 : (65 : Int) ≤ (c.toNat : Int) := by omega
        have a2 : (c.toNat : Int) ≤ 70 := by omega
        go_wp2
        go_ret
        exact ⟨by rw [HV.out]; exact ret_int (by omega), rfl⟩
      · have HV := Lib.hid (show digV c = 16 by unfold digV; rw [if_neg h1, if_neg h2, if_neg h3])
        by_cases b1 : 48 ≤ c.toNat
        · have a1 : (48 : Int) ≤ (c.toNat : Int) := by omega
          have a2 : ¬ (c.toNat : Int) ≤ 57 := by omega
          by_cases b2 : 97 ≤ c.toNat
          · have a3 : (97 : Int) ≤ (c.toNat : Int) := by omega
            have a4 : ¬ (c.toNat : Int) ≤ 102 := by omega
            go_wp2
            go_ret
            exact ⟨by rw [HV.out]; rfl, rfl⟩
          · have a3 : ¬ (97 : Int) ≤ (c.toNat : Int) := by omega
            by_cases b3 : 65 ≤ c.toNat
            · have a5 : (65 : Int) ≤ (c.toNat : Int) := by omega
              have a6 : ¬ (c.toNat : Int) ≤ 70 := by omega
              go_wp2
              go_ret
              exact ⟨by rw [HV.out]; rfl, rfl⟩
            · have a5 : ¬ (65 : Int) ≤ (c.toNat : Int) := by omega
              go_wp2
              go_ret
              exact ⟨by rw [HV.out]; rfl, rfl⟩
        · have a1 : ¬ (48 : Int) ≤ (c.toNat : Int) := by omega
          have a3 : ¬ (97 : Int) ≤ (c.toNat : Int) := by omega
          have a5 : ¬ (65 : Int) ≤ (c.toNat : Int) := by omega
          go_wp2
          go_ret
          exact ⟨by rw [HV.out]; rfl, rfl⟩

theorem parse10_calls (s : ByteArray) (most : Int) (w : World) (hs : s.size ≤ maxLen) (hm : 0 ≤ most) (hm2 : most ≤ 9223372036854775807) :
    Calls Tryz.prog 108 #[.string s, .int .i64 10, .int .i64 most] w fun e w' => e = .returned (.tuple #[.int .i64 (parseN 10 most (bl s)).1, .int .i64 (parseN 10 most (bl s)).2]) ∧ w = w' := by
  have hs2 : s.size ≤ 9223372036854775807 := by simpa [maxLen] using hs
  have HL := Lib.hid (bl_length s)
  go_enter Tryz.func108, Tryz.ntmps108
  go_wp2
  go_loop [8, 14] (fun _ i => ∃ k : Nat, k ≤ s.size ∧ i = .int .i64 k ∧ Hid (badN 10 ((bl s).take k) = false)) (fun _ i => s.size - (intOf i).toNat)
  case atStart => exact ⟨0, Nat.zero_le _, rfl, rfl⟩
  case round =>
    obtain ⟨k, hk, rfl, ht⟩ := hrel
    by_cases hlt : k < s.size
    · have hk2 : k < (bl s).length := by rw [HL.out]; exact hlt
      obtain ⟨x, hx, hsx⟩ := byte_split s k hlt
      have HD := Lib.hid (fun w => digit_calls x w)
      have HB := Lib.hid (fun h => parseN_bad (most := most) (badN_at (b := 10) (bl s) k hk2 (by rw [hx]; exact h)))
      have HG := Lib.hid (fun h => badN_succ (b := 10) (bl s) k hk2 ht.out (by rw [hx]; exact h))
      clear ht hx
      generalize digV x = d at *
      by_cases hd : 10 ≤ d
      · have HR := Lib.hid (HB.out hd)
        clear HB HG
        go_wp2_with (go_at_call 128; refine (HD.out _).mono ?_; rintro e w1 ⟨rfl, rfl⟩)
        refine bodyPost_ret (v := .tuple #[.int .i64 0, .int .i64 2]) (by simp [results, Tryz.results108, go_sem]) rfl ⟨by rw [HR.out], rfl⟩
      · have HR := Lib.hid (HG.out hd)
        clear HB HG
        go_wp2_with (go_at_call 128; refine (HD.out _).mono ?_; rintro e w1 ⟨rfl, rfl⟩)
        go_round
        case rel => exact ⟨k + 1, by omega, by go_num, HR⟩
        case measure => simp [intOf]; omega
    · have HB := Lib.hid (badN_full (bl s) k (by rw [bl_length]; omega) ht.out)
      clear ht
      by_cases h0 : s.size = 0
      · have e : s = .empty := bl_inj (List.eq_nil_of_length_eq_zero (by rw [bl_length]; exact h0))
        subst e
        have HR := Lib.hid (parseN_empty (b := 10) (most := most))
        clear HB
        go_wp2
        refine bodyPost_ret (v := .tuple #[.int .i64 0, .int .i64 2]) (by simp [results, Tryz.results108, go_sem]) rfl ⟨HR.out ▸ rfl, rfl⟩
      · have HN := Lib.hid (show bl s ≠ [] by intro e; apply h0; rw [← bl_length, e]; rfl)
        have hne : s.toList.isEmpty = false := by
          rw [toList_bl]
          cases e : bl s with
          | nil => exact absurd e HN.out
          | cons _ _ => rfl
        have hne2 : (s.toList == []) = false := by
          rw [toList_bl]
          cases e : bl s with
          | nil => exact absurd e HN.out
          | cons _ _ => rfl
        go_wp2
        go_loop [9, 10, 11, 28] (fun n _ _ i => ∃ (k : Nat) (m : Int), k ≤ s.size ∧ i = .int .i64 k ∧ n = .int .i64 m ∧ 0 ≤ m ∧ m ≤ most ∧ Hid (accN 10 most m ((bl s).drop k) = accN 10 most 0 (bl s))) (fun _ _ _ i => s.size - (intOf i).toNat)
        case atStart => exact ⟨0, 0, Nat.zero_le _, rfl, rfl, by omega, hm, rfl⟩
        case round =>
          obtain ⟨j, m, hj, rfl, rfl, hm0, hmm, ha⟩ := hrel
          by_cases hjt : j < s.size
          · have hj2 : j < (bl s).length := by rw [HL.out]; exact hjt
            obtain ⟨x, hx, hsx⟩ := byte_split s j hjt
            have HD := Lib.hid (fun w => digit_calls x w)
            have hd1 := badN_get HB.out j hj2
            have hd0 := digV_bd x
            have HS := Lib.hid (fun h => accN_stop (b := 10) (most := most) (n := m) hj2 (by rw [hx]; exact h))
            have HT := Lib.hid (fun h => accN_step (b := 10) (most := most) (n := m) hj2 (by rw [hx]; exact h))
            rw [hx] at hd1
            rw [hx] at HT
            clear hx
            generalize digV x = d at *
            obtain ⟨hd2, hd3⟩ := hd0
            by_cases c1 : most < d
            · have HR := Lib.hid (parseN_none HB.out HN.out (ha.out.symm.trans (HS.out (Or.inl c1))))
              clear HS HT ha
              go_wp2_with (go_at_call 128; refine (HD.out _).mono ?_; rintro e w1 ⟨rfl, rfl⟩)
              refine bodyPost_ret (v := .tuple #[.int .i64 0, .int .i64 3]) (by simp [results, Tryz.results108, go_sem]) rfl ⟨by rw [HR.out], rfl⟩
            · by_cases c2 : (most - d) / 10 < m
              · have HR := Lib.hid (parseN_none HB.out HN.out (ha.out.symm.trans (HS.out (Or.inr c2))))
                clear HS HT ha
                go_wp2_with (go_at_call 128; refine (HD.out _).mono ?_; rintro e w1 ⟨rfl, rfl⟩)
                refine bodyPost_ret (v := .tuple #[.int .i64 0, .int .i64 3]) (by simp [results, Tryz.results108, go_sem]) rfl ⟨by rw [HR.out], rfl⟩
              · have HR := Lib.hid ((HT.out (by omega)).symm.trans ha.out)
                have hbd := accN_bd (b := 10) (most := most) (n := m) (d := d) (by omega) hd2 hm0 (by omega)
                obtain ⟨hbd1, hbd2⟩ := hbd
                clear HS HT ha
                go_wp2_with (go_at_call 128; refine (HD.out _).mono ?_; rintro e w1 ⟨rfl, rfl⟩)
                go_round
                case rel => exact ⟨j + 1, _, by omega, by go_num, rfl, hbd1, hbd2, HR⟩
                case measure => simp [intOf]; omega
          · have HR := Lib.hid (show parseN 10 most (bl s) = (m, 0) from parseN_some HB.out HN.out (by rw [← ha.out, List.drop_eq_nil_of_le (by rw [bl_length]; omega)]; rfl))
            clear ha
            go_wp2
            refine bodyPost_ret (v := .tuple #[.int .i64 m, .int .i64 0]) (by simp [results, Tryz.results108, go_sem]) rfl ⟨by rw [HR.out], rfl⟩

theorem parseDecimal_calls (s : ByteArray) (most : Int) (w : World) (hs : s.size ≤ maxLen) (hm : 0 ≤ most) (hm2 : most ≤ 9223372036854775807) :
    Calls Tryz.prog 82 #[.string s, .int .i64 most] w fun e w' => e = .returned (.tuple #[.int .i64 (parseN 10 most (bl s)).1, .int .i64 (parseN 10 most (bl s)).2]) ∧ w = w' := by
  have HP := Lib.hid (parse10_calls s most w hs hm hm2)
  generalize parseN 10 most (bl s) = r at *
  go_enter Tryz.func82, Tryz.ntmps82
  go_wp2_with fail
  refine (HP.out).mono ?_
  rintro e w1 ⟨rfl, rfl⟩
  go_wp2
  refine bodyPost_ret (v := .tuple #[.int .i64 r.1, .int .i64 r.2]) (by simp [results, Tryz.results82, go_sem]) rfl ⟨rfl, rfl⟩

/-- the reference's digit -/
def rdig (c : UInt8) : Int := if 10 ≤ digV c then -1 else digV c
theorem refDig_calls (c : UInt8) (w : World) :
    Calls Tryz.prog 129 #[.int .u8 (c.toNat : Int), .int .i64 10] w fun e w' => e = .returned (.int .i64 (rdig c)) ∧ w = w' := by
  have hc := c.toNat_lt
  cases hdg : digitB c with
  | true =>
    have h1 : 48 ≤ c.toNat ∧ c.toNat ≤ 57 := by simpa [digitB] using hdg
    have HV := Lib.hid (show rdig c = (c.toNat : Int) - 48 by unfold rdig digV; rw [if_pos h1, if_neg (by omega)])
    go_enter Tryz.func129, Tryz.ntmps129
    go_wp2_with fail
    refine (refDigit_t c _ hdg).mono ?_
    rintro e w1 ⟨rfl, rfl⟩
    have a1 : (48 : Int) ≤ (c.toNat : Int) := by omega
    have a2 : (c.toNat : Int) ≤ 57 := by omega
    clear hdg
    go_wp2
    go_ret
    exact ⟨by rw [HV.out]; first | rfl | exact ret_int (by omega), rfl⟩
  | false =>
    have h1 : ¬ (48 ≤ c.toNat ∧ c.toNat ≤ 57) := by simpa [digitB] using hdg
    have HV := Lib.hid (show rdig c = -1 by
      unfold rdig digV; rw [if_neg h1]
      by_cases h2 : 97 ≤ c.toNat ∧ c.toNat ≤ 102
      · rw [if_pos h2, if_pos (by omega)]
      · rw [if_neg h2]
        by_cases h3 : 65 ≤ c.toNat ∧ c.toNat ≤ 70
        · rw [if_pos h3, if_pos (by omega)]
        · rw [if_neg h3, if_pos (by omega)])
    by_cases b2 : 97 ≤ c.toNat
    · have a3 : (97 : Int) ≤ (c.toNat : Int) := by omega
      by_cases b3 : c.toNat ≤ 102
      · have a4 : (c.toNat : Int) ≤ 102 := by omega
        go_enter Tryz.func129, Tryz.ntmps129
        go_wp2_with fail
        refine (refDigit_f c _ hdg).mono ?_
        rintro e w1 ⟨rfl, rfl⟩
        clear hdg
        have a5 : (10 : Int) ≤ (c.toNat : Int) - 97 + 10 := by omega
        go_wp2
        go_ret
        exact ⟨by rw [HV.out]; rfl, rfl⟩
      · have a4 : ¬ (c.toNat : Int) ≤ 102 := by omega
        have a5 : (65 : Int) ≤ (c.toNat : Int) := by omega
        have a6 : ¬ (c.toNat : Int) ≤ 70 := by omega
        go_enter Tryz.func129, Tryz.ntmps129
        go_wp2_with fail
        refine (refDigit_f c _ hdg).mono ?_
        rintro e w1 ⟨rfl, rfl⟩
        clear hdg
        go_wp2
        go_ret
        exact ⟨by rw [HV.out]; rfl, rfl⟩
    · have a3 : ¬ (97 : Int) ≤ (c.toNat : Int) := by omega
      by_cases b3 : 65 ≤ c.toNat
      · have a5 : (65 : Int) ≤ (c.toNat : Int) := by omega
        by_cases b4 : c.toNat ≤ 70
        · have a6 : (c.toNat : Int) ≤ 70 := by omega
          go_enter Tryz.func129, Tryz.ntmps129
          go_wp2_with fail
          refine (refDigit_f c _ hdg).mono ?_
          rintro e w1 ⟨rfl, rfl⟩
          clear hdg
          have a7 : (10 : Int) ≤ (c.toNat : Int) - 65 + 10 := by omega
          go_wp2
          go_ret
          exact ⟨by rw [HV.out]; rfl, rfl⟩
        · have a6 : ¬ (c.toNat : Int) ≤ 70 := by omega
          go_enter Tryz.func129, Tryz.ntmps129
          go_wp2_with fail
          refine (refDigit_f c _ hdg).mono ?_
          rintro e w1 ⟨rfl, rfl⟩
          clear hdg
          go_wp2
          go_ret
          exact ⟨by rw [HV.out]; rfl, rfl⟩
      · have a5 : ¬ (65 : Int) ≤ (c.toNat : Int) := by omega
        go_enter Tryz.func129, Tryz.ntmps129
        go_wp2_with fail
        refine (refDigit_f c _ hdg).mono ?_
        rintro e w1 ⟨rfl, rfl⟩
        clear hdg
        go_wp2
        go_ret
        exact ⟨by rw [HV.out]; rfl, rfl⟩

theorem refParse10_calls (s : ByteArray) (most : Int) (w : World) (hs : s.size ≤ maxLen) (hm : 0 ≤ most) (hm2 : most ≤ 9223372036854775807) :
    Calls Tryz.prog 109 #[.string s, .int .i64 most, .int .i64 10] w fun e w' => e = .returned (.tuple #[.int .i64 (parseN 10 most (bl s)).1, .int .i64 (parseN 10 most (bl s)).2]) ∧ w = w' := by
  have hs2 : s.size ≤ 9223372036854775807 := by simpa [maxLen] using hs
  have HL := Lib.hid (bl_length s)
  by_cases h0 : s.size = 0
  · have e : s = .empty := bl_inj (List.eq_nil_of_length_eq_zero (by rw [bl_length]; exact h0))
    subst e
    have HR := Lib.hid (parseN_empty (b := 10) (most := most))
    go_enter Tryz.func109, Tryz.ntmps109
    go_wp2
    exact bodyPost_ret (v := .tuple #[.int .i64 0, .int .i64 2]) (by simp [results, Tryz.results109, go_sem]) rfl ⟨HR.out ▸ rfl, rfl⟩
  have HN := Lib.hid (show bl s ≠ [] by intro e; apply h0; rw [← bl_length, e]; rfl)
  have hne : s.toList.isEmpty = false := by
    rw [toList_bl]
    cases e : bl s with
    | nil => exact absurd e HN.out
    | cons _ _ => rfl
  have hne2 : (s.toList == []) = false := by
    rw [toList_bl]
    cases e : bl s with
    | nil => exact absurd e HN.out
    | cons _ _ => rfl
  go_enter Tryz.func109, Tryz.ntmps109
  go_wp2
  go_loop [8] (fun i => ∃ k : Nat, k ≤ s.size ∧ i = .int .i64 k ∧ Hid (badN 10 ((bl s).take k) = false)) (fun i => s.size - (intOf i).toNat)
  case atStart => exact ⟨0, Nat.zero_le _, rfl, rfl⟩
  case round =>
    obtain ⟨k, hk, rfl, ht⟩ := hrel
    by_cases hlt : k < s.size
    · have hk2 : k < (bl s).length := by rw [HL.out]; exact hlt
      obtain ⟨x, hx, hsx⟩ := byte_split s k hlt
      have HD := Lib.hid (fun w => refDig_calls x w)
      have HB := Lib.hid (fun h => parseN_bad (most := most) (badN_at (b := 10) (bl s) k hk2 (by rw [hx]; exact h)))
      have HG := Lib.hid (fun h => badN_succ (b := 10) (bl s) k hk2 ht.out (by rw [hx]; exact h))
      clear ht hx
      by_cases hd : 10 ≤ digV x
      · have HR := Lib.hid (HB.out hd)
        have hrd : rdig x < 0 := by unfold rdig; rw [if_pos hd]; omega
        clear HB HG
        generalize rdig x = d at *
        go_wp2_with (go_at_call 129; refine (HD.out _).mono ?_; rintro e w1 ⟨rfl, rfl⟩)
        refine bodyPost_ret (v := .tuple #[.int .i64 0, .int .i64 2]) (by simp [results, Tryz.results109, go_sem]) rfl ⟨by rw [HR.out], rfl⟩
      · have HR := Lib.hid (HG.out hd)
        have hrd : ¬ rdig x < 0 := by unfold rdig; rw [if_neg hd]; have := digV_bd x; omega
        clear HB HG
        generalize rdig x = d at *
        go_wp2_with (go_at_call 129; refine (HD.out _).mono ?_; rintro e w1 ⟨rfl, rfl⟩)
        go_round
        case rel => exact ⟨k + 1, by omega, by go_num, HR⟩
        case measure => simp [intOf]; omega
    · have HB := Lib.hid (badN_full (bl s) k (by rw [bl_length]; omega) ht.out)
      clear ht
      go_wp2
      go_loop [9, 10, 11] (fun n i _ => ∃ (k : Nat) (m : Int), k ≤ s.size ∧ i = .int .i64 k ∧ n = .int .i64 m ∧ 0 ≤ m ∧ m ≤ most ∧ Hid (accN 10 most m ((bl s).drop k) = accN 10 most 0 (bl s))) (fun _ i _ => s.size - (intOf i).toNat)
      case atStart => exact ⟨0, 0, Nat.zero_le _, rfl, rfl, by omega, hm, rfl⟩
      case round =>
        obtain ⟨j, m, hj, rfl, rfl, hm0, hmm, ha⟩ := hrel
        by_cases hjt : j < s.size
        · have hj2 : j < (bl s).length := by rw [HL.out]; exact hjt
          obtain ⟨x, hx, hsx⟩ := byte_split s j hjt
          have HD := Lib.hid (fun w => refDig_calls x w)
          have hd1 := badN_get HB.out j hj2
          have hd0 := digV_bd x
          have HS := Lib.hid (fun h => accN_stop (b := 10) (most := most) (n := m) hj2 (by rw [hx]; exact h))
          have HT := Lib.hid (fun h => accN_step (b := 10) (most := most) (n := m) hj2 (by rw [hx]; exact h))
          rw [hx] at hd1
          rw [hx] at HT
          clear hx
          rw [show rdig x = digV x by unfold rdig; rw [if_neg hd1]] at HD
          generalize digV x = d at *
          obtain ⟨hd2, hd3⟩ := hd0
          by_cases c1 : most < d
          · have HR := Lib.hid (parseN_none HB.out HN.out (ha.out.symm.trans (HS.out (Or.inl c1))))
            clear HS HT ha
            go_wp2_with (go_at_call 129; refine (HD.out _).mono ?_; rintro e w1 ⟨rfl, rfl⟩)
            refine bodyPost_ret (v := .tuple #[.int .i64 0, .int .i64 3]) (by simp [results, Tryz.results109, go_sem]) rfl ⟨by rw [HR.out], rfl⟩
          · by_cases c2 : (most - d) / 10 < m
            · have HR := Lib.hid (parseN_none HB.out HN.out (ha.out.symm.trans (HS.out (Or.inr c2))))
              clear HS HT ha
              go_wp2_with (go_at_call 129; refine (HD.out _).mono ?_; rintro e w1 ⟨rfl, rfl⟩)
              refine bodyPost_ret (v := .tuple #[.int .i64 0, .int .i64 3]) (by simp [results, Tryz.results109, go_sem]) rfl ⟨by rw [HR.out], rfl⟩
            · have HR := Lib.hid ((HT.out (by omega)).symm.trans ha.out)
              have hbd := accN_bd (b := 10) (most := most) (n := m) (d := d) (by omega) hd2 hm0 (by omega)
              obtain ⟨hbd1, hbd2⟩ := hbd
              clear HS HT ha
              go_wp2_with (go_at_call 129; refine (HD.out _).mono ?_; rintro e w1 ⟨rfl, rfl⟩)
              go_round
              case rel => exact ⟨j + 1, _, by omega, by go_num, rfl, hbd1, hbd2, HR⟩
              case measure => simp [intOf]; omega
        · have HR := Lib.hid (show parseN 10 most (bl s) = (m, 0) from parseN_some HB.out HN.out (by rw [← ha.out, List.drop_eq_nil_of_le (by rw [bl_length]; omega)]; rfl))
          clear ha
          go_wp2
          refine bodyPost_ret (v := .tuple #[.int .i64 m, .int .i64 0]) (by simp [results, Tryz.results109, go_sem]) rfl ⟨by rw [HR.out], rfl⟩

theorem refParseDecimal_calls (s : ByteArray) (most : Int) (w : World) (hs : s.size ≤ maxLen) (hm : 0 ≤ most) (hm2 : most ≤ 9223372036854775807) :
    Calls Tryz.prog 83 #[.string s, .int .i64 most] w fun e w' => e = .returned (.tuple #[.int .i64 (parseN 10 most (bl s)).1, .int .i64 (parseN 10 most (bl s)).2]) ∧ w = w' := by
  have HP := Lib.hid (refParse10_calls s most w hs hm hm2)
  generalize parseN 10 most (bl s) = r at *
  go_enter Tryz.func83, Tryz.ntmps83
  go_wp2_with fail
  refine (HP.out).mono ?_
  rintro e w1 ⟨rfl, rfl⟩
  go_wp2
  refine bodyPost_ret (v := .tuple #[.int .i64 r.1, .int .i64 r.2]) (by simp [results, Tryz.results83, go_sem]) rfl ⟨rfl, rfl⟩
end Go.Proofs.YtglljdhhgmgbgaaGreatDoor
