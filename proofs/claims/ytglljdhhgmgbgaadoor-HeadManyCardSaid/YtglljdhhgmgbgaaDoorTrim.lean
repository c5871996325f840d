/- Trim and Value of package ascii and of its reference. -/
import Derived.Test.YtglljdhhgmgbgaaDoorAscii
namespace Go.Proofs.YtglljdhhgmgbgaaDoor
open Go.RowKit Go.Own
set_option linter.unusedVariables false

set_option maxHeartbeats 1000000 in
theorem trim_calls (s : ByteArray) (w : World) (hs : s.size ≤ maxLen) :
    Calls Tryd.prog 38 #[.string s] w fun e w' => e = .returned (.string (trimB s)) ∧ w = w' := by
  have hs2 : s.size ≤ 9223372036854775807 := by simpa [maxLen] using hs
  go_enter Tryd.func38, Tryd.ntmps38
  go_wp2
  go_loop [0] (fun v => ∃ t : ByteArray, v = .string t ∧ t.size ≤ s.size ∧ Hid (trimL (bl t) = trimL (bl s))) (fun v => strSize v)
  case atStart => exact ⟨s, rfl, Nat.le_refl _, rfl⟩
  case round =>
    obtain ⟨t, rfl, ht1, ht2⟩ := hrel
    by_cases ht0 : t.size = 0
    · have H2 := Lib.hid (trim_mid t s (Or.inl ht0) ht2.out)
      have hz : t.size = 0 := ht0
      clear ht2 ht0
      go_wp2
      go_loop [0] (fun v => ∃ t : ByteArray, v = .string t ∧ t.size ≤ s.size ∧ Hid (trimR (bl t) = trim (bl s))) (fun v => strSize v)
      case atStart => exact ⟨t, rfl, ht1, H2⟩
      case round =>
        clear H2 ht1
        obtain ⟨u, rfl, hu1, hu2⟩ := hrel
        by_cases hu0 : u.size = 0
        · have hz : u.size = 0 := hu0
          have HR := Lib.hid (trim_done u s (Or.inl hu0) hu2.out)
          clear hu2 hu0
          go_wp2
          go_ret
          exact ⟨ret_str HR.out, rfl⟩
        · obtain ⟨m, hm⟩ : ∃ m, u.size = m + 1 := ⟨u.size - 1, by omega⟩
          obtain ⟨x, hx, hsx⟩ := byte_split u m (by omega)
          cases hbx : blankB x with
          | true =>
            have HR := Lib.hid (trimR_step u m hm (by rw [hx]; exact hbx) |>.trans hu2.out)
            have hum : m + 1 ≤ s.size := by omega
            have HM := Lib.hid hm
            clear hu2 hx hu0
            go_wp2_with fail
            refine (space_calls x _).mono ?_
            rintro e w1 ⟨rfl, rfl⟩
            go_wp2
            have hm' := HM.out
            go_round
            case rel => exact ⟨_, rfl, by rw [ByteArray.size_extract]; omega, HR⟩
            case measure => simp [strSize, ByteArray.size_extract]; omega
          | false =>
            have HR := Lib.hid (trim_done u s (Or.inr ⟨m, hm, by rw [hx]; exact hbx⟩) hu2.out)
            clear hu2 hx hu0
            go_wp2_with fail
            refine (space_calls x _).mono ?_
            rintro e w1 ⟨rfl, rfl⟩
            go_wp2
            go_ret
            exact ⟨ret_str HR.out, rfl⟩
    · obtain ⟨x, hx, hsx⟩ := byte_split t 0 (by omega)
      have hpos : (0 : Int) < (t.size : Int) := by omega
      cases hbx : blankB x with
      | true =>
        have HR := Lib.hid (trimL_step t (by omega) (by rw [hx]; exact hbx) |>.trans ht2.out)
        clear ht2 hx
        go_wp2_with (go_at_call 61; refine (space_calls x _).mono ?_; rintro e w1 ⟨rfl, rfl⟩)
        go_round
        case rel => exact ⟨_, rfl, by rw [ByteArray.size_extract]; omega, HR⟩
        case measure => simp [strSize, ByteArray.size_extract]; omega
      | false =>
        have H2 := Lib.hid (trim_mid t s (Or.inr ⟨by omega, by rw [hx]; exact hbx⟩) ht2.out)
        clear ht2 hx
        go_wp2_with (go_at_call 61; refine (space_calls x _).mono ?_; rintro e w1 ⟨rfl, rfl⟩)
        clear hsx hbx
        go_loop [0] (fun v => ∃ t : ByteArray, v = .string t ∧ t.size ≤ s.size ∧ Hid (trimR (bl t) = trim (bl s))) (fun v => strSize v)
        case atStart => exact ⟨t, rfl, ht1, H2⟩
        case round =>
          clear H2 ht1
          obtain ⟨u, rfl, hu1, hu2⟩ := hrel
          by_cases hu0 : u.size = 0
          · have hz : u.size = 0 := hu0
            have HR := Lib.hid (trim_done u s (Or.inl hu0) hu2.out)
            clear hu2 hu0
            go_wp2
            go_ret
            exact ⟨ret_str HR.out, rfl⟩
          · obtain ⟨m, hm⟩ : ∃ m, u.size = m + 1 := ⟨u.size - 1, by omega⟩
            obtain ⟨x, hx, hsx⟩ := byte_split u m (by omega)
            cases hbx : blankB x with
            | true =>
              have HR := Lib.hid (trimR_step u m hm (by rw [hx]; exact hbx) |>.trans hu2.out)
              have hum : m + 1 ≤ s.size := by omega
              have HM := Lib.hid hm
              clear hu2 hx hu0
              go_wp2_with fail
              refine (space_calls x _).mono ?_
              rintro e w1 ⟨rfl, rfl⟩
              go_wp2
              have hm' := HM.out
              go_round
              case rel => exact ⟨_, rfl, by rw [ByteArray.size_extract]; omega, HR⟩
              case measure => simp [strSize, ByteArray.size_extract]; omega
            | false =>
              have HR := Lib.hid (trim_done u s (Or.inr ⟨m, hm, by rw [hx]; exact hbx⟩) hu2.out)
              clear hu2 hx hu0
              go_wp2_with fail
              refine (space_calls x _).mono ?_
              rintro e w1 ⟨rfl, rfl⟩
              go_wp2
              go_ret
              exact ⟨ret_str HR.out, rfl⟩



set_option maxHeartbeats 1000000 in
theorem value_calls (s : ByteArray) (w : World) (hs : s.size ≤ maxLen) :
    Calls Tryd.prog 62 #[.string s] w fun e w' => e = .returned (.bool (value (bl s))) ∧ w = w' := by
  have hs2 : s.size ≤ 9223372036854775807 := by simpa [maxLen] using hs
  have HL := Lib.hid (bl_length s)
  go_enter Tryd.func62, Tryd.ntmps62
  go_wp2
  go_loop [3, 4, 7] (fun _ _ i => ∃ k : Nat, k ≤ s.size ∧ i = .int .i64 k ∧ Hid (((bl s).take k).all visB = true)) (fun _ _ i => s.size - (intOf i).toNat)
  case atStart => exact ⟨0, Nat.zero_le _, rfl, rfl⟩
  case round =>
    obtain ⟨k, hk, rfl, ht⟩ := hrel
    by_cases hlt : k < s.size
    · have hk2 : k < (bl s).length := by rw [HL.out]; exact hlt
      obtain ⟨x, hx, hsx⟩ := byte_split s k hlt
      have HT := Lib.hid (fun h : visB x = true => Lib.hid (all_take_succ (p := visB) (bl s) k hk2 ht.out (by rw [hx]; exact h)))
      have HF := Lib.hid (fun h : visB x = false => (all_fails (p := visB) (bl s) k hk2 (by rw [hx]; exact h)))
      clear ht hx
      by_cases h9 : x.toNat = 9
      · have HR := HT.out (by simp [visB, h9])
        have e9 : (x.toNat : Int) = 9 := by omega
        clear HT HF h9
        go_wp2
        go_round
        case rel => exact ⟨k + 1, by omega, by go_num, HR⟩
        case measure => simp [intOf]; omega
      have b9 : ((x.toNat : Int) == 9) = false := by rw [beq_eq_false_iff_ne]; omega
      have c9 : ((x.toNat : Int) != 9) = true := by rw [bne_iff_ne]; omega
      by_cases h127 : x.toNat = 127
      · have HR := Lib.hid (HF.out (by simp [visB, h127]))
        have e127 : (x.toNat : Int) = 127 := by omega
        clear HT HF h127 h9 b9 c9
        go_wp2
        go_ret
        exact ⟨ret_bool (value_no HR.out), rfl⟩
      have b127 : ((x.toNat : Int) == 127) = false := by rw [beq_eq_false_iff_ne]; omega
      by_cases h32 : x.toNat < 32
      · have HR := Lib.hid (HF.out (by simp [visB, h32, h9]))
        have e32 : (x.toNat : Int) < 32 := by omega
        clear HT HF h32 h127 h9
        go_wp2
        go_ret
        exact ⟨ret_bool (value_no HR.out), rfl⟩
      · have HR := HT.out (by simp [visB, h32, h127])
        have e32 : (32 : Int) ≤ (x.toNat : Int) := by omega
        clear HT HF h32 h127 h9
        go_wp2
        go_round
        case rel => exact ⟨k + 1, by omega, by go_num, HR⟩
        case measure => simp [intOf]; omega
    · have HR := Lib.hid (all_full (p := visB) (bl s) k (by rw [HL.out]; omega) ht.out)
      clear ht
      go_wp2_with fail
      refine (trim_calls s _ hs).mono ?_
      rintro e w1 ⟨rfl, rfl⟩
      go_wp2
      go_ret
      exact ⟨ret_bool (value_end HR.out), rfl⟩



end Go.Proofs.YtglljdhhgmgbgaaDoor
