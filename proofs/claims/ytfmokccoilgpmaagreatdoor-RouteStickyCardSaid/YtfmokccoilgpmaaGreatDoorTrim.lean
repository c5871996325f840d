/- Trim and Value of package ascii and of its reference. -/
import Derived.Test.YtfmokccoilgpmaaGreatDoorAscii
namespace Go.Proofs.YtfmokccoilgpmaaGreatDoor
open Go.RowKit Go.Own
set_option linter.unusedVariables false

set_option maxHeartbeats 1000000 in
theorem trim_calls (s : ByteArray) (w : World) (hs : s.size ≤ maxLen) :
    Calls Tryz.prog 80 #[.string s] w fun e w' => e = .returned (.string (trimB s)) ∧ w = w' := by
  have hs2 : s.size ≤ 9223372036854775807 := by simpa [maxLen] using hs
  go_enter Tryz.func80, Tryz.ntmps80
  go_wp2
  go_loop [0] (fun v => ∃ t : ByteArray, v = .string t ∧ t.size ≤ s.size ∧ Hid (trimL (bl t) = trimL (bl s))) (fun v => strSize v)
  case atStart => exact ⟨s, rfl, Nat.le_refl _, rfl⟩
  case round =>
    obtain ⟨t, rfl, ht1, ht2⟩ := hrel
    by_cases ht0 : t.size = 0
    · have H2 := Lib.hid (trim_mid t s (Or.inl ht0) ht2.out)
      have hz : t.size = 0 := ht0
      clear ht2 ht0
      go_wp2
      go_loop [0] (fun v => ∃ t : ByteArray, v = .string t ∧ t.size ≤ s.size ∧ Hid (trimR (bl t) = trim (bl s))) (fun v => strSize v)
      case atStart => exact ⟨t, rfl, ht1, H2⟩
      case round =>
        clear H2 ht1
        obtain ⟨u, rfl, hu1, hu2⟩ := hrel
        by_cases hu0 : u.size = 0
        · have hz : u.size = 0 := hu0
          have HR := Lib.hid (trim_done u s (Or.inl hu0) hu2.out)
          clear hu2 hu0
          go_wp2
          go_ret
          exact ⟨ret_str HR.out, rfl⟩
        · obtain ⟨m, hm⟩ : ∃ m, u.size = m + 1 := ⟨u.size - 1, by omega⟩
          obtain ⟨x, hx, hsx⟩ := byte_split u m (by omega)
          cases hbx : blankB x with
          | true =>
            have HR := Lib.hid (trimR_step u m hm (by rw [hx]; exact hbx) |>.trans hu2.out)
            have hum : m + 1 ≤ s.size := by omega
            have HM := Lib.hid hm
            clear hu2 hx hu0
            go_wp2_with fail
            refine (space_calls x _).mono ?_
            rintro e w1 ⟨rfl, rfl⟩
            go_wp2
            have hm' := HM.out
            go_round
            case rel => exact ⟨_, rfl, by rw [ByteArray.size_extract]; omega, HR⟩
            case measure => simp [strSize, ByteArray.size_extract]; omega
          | false =>
            have HR := Lib.hid (trim_done u s (Or.inr ⟨m, hm, by rw [hx]; exact hbx⟩) hu2.out)
            clear hu2 hx hu0
            go_wp2_with fail
            refine (space_calls x _).mono ?_
            rintro e w1 ⟨rfl, rfl⟩
            go_wp2
            go_ret
            exact ⟨ret_str HR.out, rfl⟩
    · obtain ⟨x, hx, hsx⟩ := byte_split t 0 (by omega)
      have hpos : (0 : Int) < (t.size : Int) := by omega
      cases hbx : blankB x with
      | true =>
        have HR := Lib.hid (trimL_step t (by omega) (by rw [hx]; exact hbx) |>.trans ht2.out)
        clear ht2 hx
        go_wp2_with (go_at_call 100; refine (space_calls x _).mono ?_; rintro e w1 ⟨rfl, rfl⟩)
        go_round
        case rel => exact ⟨_, rfl, by rw [ByteArray.size_extract]; omega, HR⟩
        case measure => simp [strSize, ByteArray.size_extract]; omega
      | false =>
        have H2 := Lib.hid (trim_mid t s (Or.inr ⟨by omega, by rw [hx]; exact hbx⟩) ht2.out)
        clear ht2 hx
        go_wp2_with (go_at_call 100; refine (space_calls x _).mono ?_; rintro e w1 ⟨rfl, rfl⟩)
        clear hsx hbx
        go_loop [0] (fun v => ∃ t : ByteArray, v = .string t ∧ t.size ≤ s.size ∧ Hid (trimR (bl t) = trim (bl s))) (fun v => strSize v)
        case atStart => exact ⟨t, rfl, ht1, H2⟩
        case round =>
          clear H2 ht1
          obtain ⟨u, rfl, hu1, hu2⟩ := hrel
          by_cases hu0 : u.size = 0
          · have hz : u.size = 0 := hu0
            have HR := Lib.hid (trim_done u s (Or.inl hu0) hu2.out)
            clear hu2 hu0
            go_wp2
            go_ret
            exact ⟨ret_str HR.out, rfl⟩
          · obtain ⟨m, hm⟩ : ∃ m, u.size = m + 1 := ⟨u.size - 1, by omega⟩
            obtain ⟨x, hx, hsx⟩ := byte_split u m (by omega)
            cases hbx : blankB x with
            | true =>
              have HR := Lib.hid (trimR_step u m hm (by rw [hx]; exact hbx) |>.trans hu2.out)
              have hum : m + 1 ≤ s.size := by omega
              have HM := Lib.hid hm
              clear hu2 hx hu0
              go_wp2_with fail
              refine (space_calls x _).mono ?_
              rintro e w1 ⟨rfl, rfl⟩
              go_wp2
              have hm' := HM.out
              go_round
              case rel => exact ⟨_, rfl, by rw [ByteArray.size_extract]; omega, HR⟩
              case measure => simp [strSize, ByteArray.size_extract]; omega
            | false =>
              have HR := Lib.hid (trim_done u s (Or.inr ⟨m, hm, by rw [hx]; exact hbx⟩) hu2.out)
              clear hu2 hx hu0
              go_wp2_with fail
              refine (space_calls x _).mono ?_
              rintro e w1 ⟨rfl, rfl⟩
              go_wp2
              go_ret
              exact ⟨ret_str HR.out, rfl⟩

set_option maxHeartbeats 1000000 in
theorem refTrim_calls (s : ByteArray) (w : World) (hs : s.size ≤ maxLen) :
    Calls Tryz.prog 87 #[.string s] w fun e w' => e = .returned (.string (trimB s)) ∧ w = w' := by
  have hs2 : s.size ≤ 9223372036854775807 := by simpa [maxLen] using hs
  go_enter Tryz.func87, Tryz.ntmps87
  go_wp2
  go_loop [0] (fun v => ∃ t : ByteArray, v = .string t ∧ t.size ≤ s.size ∧ Hid (trimL (bl t) = trimL (bl s))) (fun v => strSize v)
  case atStart => exact ⟨s, rfl, Nat.le_refl _, rfl⟩
  case round =>
    obtain ⟨t, rfl, ht1, ht2⟩ := hrel
    by_cases ht0 : t.size = 0
    · have H2 := Lib.hid (trim_mid t s (Or.inl ht0) ht2.out)
      have hz : t.size = 0 := ht0
      clear ht2 ht0
      go_wp2
      go_loop [0] (fun v => ∃ t : ByteArray, v = .string t ∧ t.size ≤ s.size ∧ Hid (trimR (bl t) = trim (bl s))) (fun v => strSize v)
      case atStart => exact ⟨t, rfl, ht1, H2⟩
      case round =>
        clear H2 ht1
        obtain ⟨u, rfl, hu1, hu2⟩ := hrel
        by_cases hu0 : u.size = 0
        · have hz : u.size = 0 := hu0
          have HR := Lib.hid (trim_done u s (Or.inl hu0) hu2.out)
          clear hu2 hu0
          go_wp2
          go_ret
          exact ⟨ret_str HR.out, rfl⟩
        · obtain ⟨m, hm⟩ : ∃ m, u.size = m + 1 := ⟨u.size - 1, by omega⟩
          obtain ⟨x, hx, hsx⟩ := byte_split u m (by omega)
          cases hbx : blankB x with
          | true =>
            have HR := Lib.hid (trimR_step u m hm (by rw [hx]; exact hbx) |>.trans hu2.out)
            have hum : m + 1 ≤ s.size := by omega
            have HM := Lib.hid hm
            clear hu2 hx hu0
            go_wp2_with fail
            refine (refBlank_calls x _).mono ?_
            rintro e w1 ⟨rfl, rfl⟩
            go_wp2
            have hm' := HM.out
            go_round
            case rel => exact ⟨_, rfl, by rw [ByteArray.size_extract]; omega, HR⟩
            case measure => simp [strSize, ByteArray.size_extract]; omega
          | false =>
            have HR := Lib.hid (trim_done u s (Or.inr ⟨m, hm, by rw [hx]; exact hbx⟩) hu2.out)
            clear hu2 hx hu0
            go_wp2_with fail
            refine (refBlank_calls x _).mono ?_
            rintro e w1 ⟨rfl, rfl⟩
            go_wp2
            go_ret
            exact ⟨ret_str HR.out, rfl⟩
    · obtain ⟨x, hx, hsx⟩ := byte_split t 0 (by omega)
      have hpos : (0 : Int) < (t.size : Int) := by omega
      cases hbx : blankB x with
      | true =>
        have HR := Lib.hid (trimL_step t (by omega) (by rw [hx]; exact hbx) |>.trans ht2.out)
        clear ht2 hx
        go_wp2_with (go_at_call 111; refine (refBlank_calls x _).mono ?_; rintro e w1 ⟨rfl, rfl⟩)
        go_round
        case rel => exact ⟨_, rfl, by rw [ByteArray.size_extract]; omega, HR⟩
        case measure => simp [strSize, ByteArray.size_extract]; omega
      | false =>
        have H2 := Lib.hid (trim_mid t s (Or.inr ⟨by omega, by rw [hx]; exact hbx⟩) ht2.out)
        clear ht2 hx
        go_wp2_with (go_at_call 111; refine (refBlank_calls x _).mono ?_; rintro e w1 ⟨rfl, rfl⟩)
        clear hsx hbx
        go_loop [0] (fun v => ∃ t : ByteArray, v = .string t ∧ t.size ≤ s.size ∧ Hid (trimR (bl t) = trim (bl s))) (fun v => strSize v)
        case atStart => exact ⟨t, rfl, ht1, H2⟩
        case round =>
          clear H2 ht1
          obtain ⟨u, rfl, hu1, hu2⟩ := hrel
          by_cases hu0 : u.size = 0
          · have hz : u.size = 0 := hu0
            have HR := Lib.hid (trim_done u s (Or.inl hu0) hu2.out)
            clear hu2 hu0
            go_wp2
            go_ret
            exact ⟨ret_str HR.out, rfl⟩
          · obtain ⟨m, hm⟩ : ∃ m, u.size = m + 1 := ⟨u.size - 1, by omega⟩
            obtain ⟨x, hx, hsx⟩ := byte_split u m (by omega)
            cases hbx : blankB x with
            | true =>
              have HR := Lib.hid (trimR_step u m hm (by rw [hx]; exact hbx) |>.trans hu2.out)
              have hum : m + 1 ≤ s.size := by omega
              have HM := Lib.hid hm
              clear hu2 hx hu0
              go_wp2_with fail
              refine (refBlank_calls x _).mono ?_
              rintro e w1 ⟨rfl, rfl⟩
              go_wp2
              have hm' := HM.out
              go_round
              case rel => exact ⟨_, rfl, by rw [ByteArray.size_extract]; omega, HR⟩
              case measure => simp [strSize, ByteArray.size_extract]; omega
            | false =>
              have HR := Lib.hid (trim_done u s (Or.inr ⟨m, hm, by rw [hx]; exact hbx⟩) hu2.out)
              clear hu2 hx hu0
              go_wp2_with fail
              refine (refBlank_calls x _).mono ?_
              rintro e w1 ⟨rfl, rfl⟩
              go_wp2
              go_ret
              exact ⟨ret_str HR.out, rfl⟩





end Go.Proofs.YtfmokccoilgpmaaGreatDoor
