/- The reference's numerals. -/
import Derived.Test.YtfmokccoilgpmaaGreatDoorPA
import Derived.Test.YtfmokccoilgpmaaGreatDoorEnv
import Derived.Deep.QuietTactic
import Derived.BigQuiet
import Derived.WalkSmall
namespace Go.Proofs.YtfmokccoilgpmaaGreatDoor
open Go.RowKit Go.Own
set_option linter.unusedVariables false
set_option maxHeartbeats 1000000

theorem digs_len64 (b n : Nat) (hb : 2 ≤ b) (hn : n ≤ 9223372036854775807) : (digs b n).length ≤ 64 := by
  refine digs_length_le b n 63 hb ?_
  exact Nat.lt_of_lt_of_le (Nat.lt_of_le_of_lt hn (by decide : 9223372036854775807 < 2 ^ 64)) (Nat.pow_le_pow_left hb 64)
theorem hex_at : ∀ d : Nat, d < 16 → bl ((⟨#[48, 49, 50, 51, 52, 53, 54, 55, 56, 57, 97, 98, 99, 100, 101, 102]⟩ : ByteArray).extract d (d + 1)) = [hexD d] := by decide +kernel

theorem refBase10_calls (n : Nat) (w : World) (hn : n ≤ 9223372036854775807) :
    Calls Tryz.prog 67 #[.int .i64 (n : Int), .int .i64 10] w fun e w' => e = .returned (.string (bs (digs 10 n))) ∧ Below w.heap.size w w' := by
  have HL := Lib.hid (digs_len64 10 n (by omega) hn)
  go_enter Tryz.func67, Tryz.ntmps67
  go_wp2
  go_loopw [0, 5] (fun v s wr => ∃ (m : Nat) (t : ByteArray), m ≤ n ∧ v = .int .i64 (m : Int) ∧ s = .string t ∧ Below w.heap.size w wr ∧ Hid (digs 10 n = digs 10 m ++ bl t)) (fun v _ _ => (intOf v).toNat)
  case atStart => exact ⟨n, ⟨#[]⟩, Nat.le_refl _, rfl, rfl, Below.refl _ _, Lib.hid (by simp [bl])⟩
  case round =>
    obtain ⟨m, t, hm, rfl, rfl, hb, HD⟩ := hrel
    have hts : t.size ≤ 64 := by have := HL.out; rw [HD.out, List.length_append, bl_length] at this; omega
    have hd0 : m % 10 < 16 := by omega
    have HX := Lib.hid (hex_at (m % 10) hd0)
    have h1 : (0 : Int) ≤ (m : Int) % 10 := by omega
    have h2 : ((m : Int) % 10).toNat = m % 10 := by omega
    have h3 : IntKind.i64.wrap ((m : Int) % 10 + 1) = (m : Int) % 10 + 1 := IntWalk.i64_in _ (by omega)
    have h4 : (0 : Int) ≤ (m : Int) % 10 + 1 := by omega
    have h5 : ((m : Int) % 10 + 1).toNat = m % 10 + 1 := by omega
    have h6 : (m : Int) % 10 + 1 ≤ 16 := by omega
    have h7 : (m : Int) % 10 ≤ (m : Int) % 10 + 1 := by omega
    have h8 : IntKind.i64.wrap ((m : Int) % 10) = (m : Int) % 10 := IntWalk.i64_in _ (by omega)
    by_cases hz : m < 10
    · have hz2 : ((m : Int) / 10 == 0) = true := by rw [beq_iff_eq]; omega
      have hq : (m : Int) / 10 = 0 := by omega
      have HF := Lib.hid (show digs 10 n = [hexD (m % 10)] ++ bl t by rw [HD.out, digs_small hz, Nat.mod_eq_of_lt hz])
      have HQ := Lib.hid hq
      clear hz hq HD
      go_wp2
      go_quiet (fail)
      clear h1 h2 h3 h4 h5 h6 h7 h8
      go_wp2
      go_ret
      exact ⟨ret_str (bl_inj (by rw [bl_append, HX.out, HF.out]; rfl)), below_drewN hb _⟩
    · have hz2 : ((m : Int) / 10 == 0) = false := by rw [beq_eq_false_iff_ne]; omega
      have HF := Lib.hid (show digs 10 n = digs 10 (m / 10) ++ ([hexD (m % 10)] ++ bl t) by rw [HD.out, digs_step (by omega) (by omega), List.append_assoc])
      have hq : ((m : Int) / 10) = ((m / 10 : Nat) : Int) := by omega
      have HQ := Lib.hid hq
      have hlt : m / 10 < m := Nat.div_lt_self (by omega) (by omega)
      clear hz hq HD
      go_wp2
      go_quiet (fail)
      clear h1 h2 h3 h4 h5 h6 h7 h8
      go_wp2
      go_roundw
      case rel => exact ⟨m / 10, _, by omega, by rw [HQ.out], rfl, below_drewN hb _, Lib.hid (by rw [bl_append, HX.out]; exact HF.out)⟩
      case measure => simp [intOf]; omega

theorem refDecimal_calls (n : Nat) (m : Int) (w : World) (hm : m = n) (hn : n ≤ 9223372036854775807) :
    Calls Tryz.prog 34 #[.int .i64 m] w fun e w' => e = .returned (.string (bs (digs 10 n))) ∧ Below w.heap.size w w' := by
  subst hm
  go_enter Tryz.func34, Tryz.ntmps34
  go_wp2_with fail
  refine (refBase10_calls n _ hn).mono ?_
  rintro e w1 ⟨rfl, hb⟩
  go_wp2
  go_ret
  exact ⟨rfl, hb⟩

theorem refBase16_calls (n : Nat) (w : World) (hn : n ≤ 9223372036854775807) :
    Calls Tryz.prog 67 #[.int .i64 (n : Int), .int .i64 16] w fun e w' => e = .returned (.string (bs (digs 16 n))) ∧ Below w.heap.size w w' := by
  have HL := Lib.hid (digs_len64 16 n (by omega) hn)
  go_enter Tryz.func67, Tryz.ntmps67
  go_wp2
  go_loopw [0, 5] (fun v s wr => ∃ (m : Nat) (t : ByteArray), m ≤ n ∧ v = .int .i64 (m : Int) ∧ s = .string t ∧ Below w.heap.size w wr ∧ Hid (digs 16 n = digs 16 m ++ bl t)) (fun v _ _ => (intOf v).toNat)
  case atStart => exact ⟨n, ⟨#[]⟩, Nat.le_refl _, rfl, rfl, Below.refl _ _, Lib.hid (by simp [bl])⟩
  case round =>
    obtain ⟨m, t, hm, rfl, rfl, hb, HD⟩ := hrel
    have hts : t.size ≤ 64 := by have := HL.out; rw [HD.out, List.length_append, bl_length] at this; omega
    have hd0 : m % 16 < 16 := by omega
    have HX := Lib.hid (hex_at (m % 16) hd0)
    have h1 : (0 : Int) ≤ (m : Int) % 16 := by omega
    have h2 : ((m : Int) % 16).toNat = m % 16 := by omega
    have h3 : IntKind.i64.wrap ((m : Int) % 16 + 1) = (m : Int) % 16 + 1 := IntWalk.i64_in _ (by omega)
    have h4 : (0 : Int) ≤ (m : Int) % 16 + 1 := by omega
    have h5 : ((m : Int) % 16 + 1).toNat = m % 16 + 1 := by omega
    have h6 : (m : Int) % 16 + 1 ≤ 16 := by omega
    have h7 : (m : Int) % 16 ≤ (m : Int) % 16 + 1 := by omega
    have h8 : IntKind.i64.wrap ((m : Int) % 16) = (m : Int) % 16 := IntWalk.i64_in _ (by omega)
    by_cases hz : m < 16
    · have hz2 : ((m : Int) / 16 == 0) = true := by rw [beq_iff_eq]; omega
      have hq : (m : Int) / 16 = 0 := by omega
      have HF := Lib.hid (show digs 16 n = [hexD (m % 16)] ++ bl t by rw [HD.out, digs_small hz, Nat.mod_eq_of_lt hz])
      have HQ := Lib.hid hq
      clear hz hq HD
      go_wp2
      go_quiet (fail)
      clear h1 h2 h3 h4 h5 h6 h7 h8
      go_wp2
      go_ret
      exact ⟨ret_str (bl_inj (by rw [bl_append, HX.out, HF.out]; rfl)), below_drewN hb _⟩
    · have hz2 : ((m : Int) / 16 == 0) = false := by rw [beq_eq_false_iff_ne]; omega
      have HF := Lib.hid (show digs 16 n = digs 16 (m / 16) ++ ([hexD (m % 16)] ++ bl t) by rw [HD.out, digs_step (by omega) (by omega), List.append_assoc])
      have hq : ((m : Int) / 16) = ((m / 16 : Nat) : Int) := by omega
      have HQ := Lib.hid hq
      have hlt : m / 16 < m := Nat.div_lt_self (by omega) (by omega)
      clear hz hq HD
      go_wp2
      go_quiet (fail)
      clear h1 h2 h3 h4 h5 h6 h7 h8
      go_wp2
      go_roundw
      case rel => exact ⟨m / 16, _, by omega, by rw [HQ.out], rfl, below_drewN hb _, Lib.hid (by rw [bl_append, HX.out]; exact HF.out)⟩
      case measure => simp [intOf]; omega

theorem refHex_calls (n : Nat) (m : Int) (w : World) (hm : m = n) (hn : n ≤ 9223372036854775807) :
    Calls Tryz.prog 35 #[.int .i64 m] w fun e w' => e = .returned (.string (bs (digs 16 n))) ∧ Below w.heap.size w w' := by
  subst hm
  go_enter Tryz.func35, Tryz.ntmps35
  go_wp2_with fail
  refine (refBase16_calls n _ hn).mono ?_
  rintro e w1 ⟨rfl, hb⟩
  go_wp2
  go_ret
  exact ⟨rfl, hb⟩
end Go.Proofs.YtfmokccoilgpmaaGreatDoor
