/- The character classes of HTTP: package ascii and its reference: what each function computes. -/
import Derived.Test.YtglljdhhgmgbgaaDoorRows
import Derived.Test.YtglljdhhgmgbgaaDoorPA
import Derived.Test.YtglljdhhgmgbgaaDoorShelf
namespace Go.Proofs.YtglljdhhgmgbgaaDoor
open Go.RowKit Go.Own
set_option linter.unusedVariables false


set_option maxHeartbeats 400000 in
theorem letter_calls (c : UInt8) (w : World) :
    Calls Tryd.prog 33 #[.int .u8 (c.toNat : Int)] w fun e w' => e = .returned (.bool (letterB c)) ∧ w = w' := by
  go_enter Tryd.func33, Tryd.ntmps33
  go_wp2
  all_goals go_ret
  all_goals exact ⟨ret_bool (by rw [Bool.eq_iff_iff]; simp [letterB, digitB]; omega), rfl⟩



set_option maxHeartbeats 400000 in
theorem space_calls (c : UInt8) (w : World) :
    Calls Tryd.prog 61 #[.int .u8 (c.toNat : Int)] w fun e w' => e = .returned (.bool (blankB c)) ∧ w = w' := by
  go_enter Tryd.func61, Tryd.ntmps61
  go_wp2
  all_goals go_ret
  all_goals exact ⟨ret_bool (by rw [Bool.eq_iff_iff]; simp [blankB]; omega), rfl⟩



set_option maxHeartbeats 1000000 in
theorem lower_calls (s : ByteArray) (w : World) (hs : s.size ≤ maxLen) :
    Calls Tryd.prog 40 #[.string s] w fun e w' => e = .returned (.string (lowerB s)) ∧ Below w.heap.size w w' := by
  go_enter Tryd.func40, Tryd.ntmps40
  go_wp2_with (refine wpList_strbytes_mut rfl 9 26 _ rfl _ rfl 5 Tryd.underlying9 Tryd.underlying26 Tryd.underlying5 ?_ hs; intro g cap w1 hb1 hg0 hg1 hcap hcm hmut)
  have hs2 : s.size ≤ 9223372036854775807 := by simpa [maxLen] using hs
  have hL := bl_length s
  have HL := Lib.hid hL
  clear hL
  go_loopw [4, 5, 10] (fun _ _ i wr => ∃ k : Nat, k ≤ s.size ∧ i = .int .i64 k ∧ Below w.heap.size w wr ∧ g < wr.heap.size ∧ MutC wr g (bytesV (lower ((bl s).take k) ++ (bl s).drop k))) (fun _ _ i _ => s.size - (intOf i).toNat)
  case atStart => exact ⟨0, Nat.zero_le _, rfl, hb1, hg1, by simpa [lower, bl] using hmut⟩
  case round =>
    obtain ⟨k, hk, rfl, hbr, hgr, hm⟩ := hrel
    clear hmut
    by_cases hlt : k < s.size
    · have hk2 : k < (bl s).length := by rw [HL.out]; exact hlt
      obtain ⟨hcell, hfr⟩ := lower_cell hm hk2
      have hm2 := lower_next hm hk2
      clear hm
      generalize (bl s)[k] = c at hcell hm2
      by_cases hup : 65 ≤ c.toNat ∧ c.toNat ≤ 90
      · have h1 : (65 : Int) ≤ (c.toNat : Int) := by omega
        have h2 : (c.toNat : Int) ≤ 90 := by omega
        have HM := Lib.hid (low1_up hup ▸ hm2.2)
        clear hm2 hup
        go_wp2
        go_roundw
        case rel => exact ⟨k + 1, by omega, by go_num, hbr.setCell hg0 _, by simpa using hgr, by first | exact HM.out | (rw [show ((c.toNat : Int) + 97 - 65) = (c.toNat : Int) + 32 from by omega]; exact HM.out)⟩
        case measure => simp [intOf]; omega
      · have HM := Lib.hid (hm2.1 (low1_no hup))
        clear hm2
        by_cases h1 : 65 ≤ c.toNat
        · have h2 : (65 : Int) ≤ (c.toNat : Int) := by omega
          have h3 : (90 : Int) < (c.toNat : Int) := by omega
          clear hup h1
          go_wp2
          go_roundw
          case rel => exact ⟨k + 1, by omega, by go_num, hbr, hgr, HM.out⟩
          case measure => simp [intOf]; omega
        · have h2 : (c.toNat : Int) < 65 := by omega
          clear hup h1
          go_wp2
          go_roundw
          case rel => exact ⟨k + 1, by omega, by go_num, hbr, hgr, HM.out⟩
          case measure => simp [intOf]; omega
    · have hd : (bl s).drop k = [] := List.drop_of_length_le (by rw [HL.out]; omega)
      have ht : (bl s).take k = bl s := List.take_of_length_le (by rw [HL.out]; omega)
      rw [hd, ht, List.append_nil] at hm
      have hR := hm.rd
      clear hm hd ht
      have HS := Lib.hid (lower_length (bl s))
      go_wp2_with (refine wpList_bytesstr rfl 26 9 _ rfl _ _ _ rfl 5 Tryd.underlying26 Tryd.underlying5 Tryd.underlying9 (lower (bl s)) (by rw [HS.out, HL.out]) hR ?_)
      go_ret
      exact ⟨rfl, hbr⟩









def idxSp (c : UInt8) : Int := Lib.indexByte specials c
theorem idxSp_neg {c : UInt8} (h : specialB c = false) : idxSp c < 0 := by
  rw [idxSp, indexByte_miss h]; decide
theorem idxSp_pos {c : UInt8} (h : specialB c = true) : 0 ≤ idxSp c := indexByte_hit h
set_option maxHeartbeats 400000 in
theorem idxSp_calls (c : UInt8) (w : World) :
    Calls Tryd.prog 34 #[.string ⟨#[33, 35, 36, 37, 38, 39, 42, 43, 45, 46, 94, 95, 96, 124, 126]⟩, .int .u8 (c.toNat : Int)] w fun e w' => e = .returned (.int .i64 (idxSp c)) ∧ w = w' := by
  refine (Tryd.strings_IndexByte _ _ w).mono ?_
  rintro e w' ⟨rfl, rfl⟩
  exact ⟨ret_int (by simp [idxSp, specials]), rfl⟩

set_option maxHeartbeats 1000000 in
theorem token_calls (s : ByteArray) (w : World) (hs : s.size ≤ maxLen) :
    Calls Tryd.prog 20 #[.string s] w fun e w' => e = .returned (.bool (token (bl s))) ∧ w = w' := by
  have hs2 : s.size ≤ 9223372036854775807 := by simpa [maxLen] using hs
  have HL := Lib.hid (bl_length s)
  go_enter Tryd.func20, Tryd.ntmps20
  go_wp2
  go_loop [3, 6] (fun _ i => ∃ k : Nat, k ≤ s.size ∧ i = .int .i64 k ∧ Hid (((bl s).take k).all tchar = true)) (fun _ i => s.size - (intOf i).toNat)
  case atStart => exact ⟨0, Nat.zero_le _, rfl, rfl⟩
  case round =>
    obtain ⟨k, hk, rfl, ht⟩ := hrel
    by_cases hlt : k < s.size
    · have hk2 : k < (bl s).length := by rw [HL.out]; exact hlt
      obtain ⟨x, hx, hsx⟩ := byte_split s k hlt
      cases h1 : letterB x with
      | true =>
        have HR := Lib.hid (all_take_succ (p := tchar) (bl s) k hk2 ht.out (by rw [hx, tchar, h1]; rfl))
        clear ht hx
        go_wp2_with fail
        refine (letter_calls x _).mono ?_
        rintro e w1 ⟨rfl, rfl⟩
        go_wp2
        go_round
        case rel => exact ⟨k + 1, by omega, by go_num, HR⟩
        case measure => simp [intOf]; omega
      | false =>
        cases h2 : specialB x with
        | true =>
          have hp := idxSp_pos h2
          have HR := Lib.hid (all_take_succ (p := tchar) (bl s) k hk2 ht.out (by rw [hx, tchar, h1, h2]; rfl))
          clear ht hx h2
          go_wp2_with fail
          refine (letter_calls x _).mono ?_
          rintro e w1 ⟨rfl, rfl⟩
          go_wp2_with fail
          refine (idxSp_calls x _).mono ?_
          rintro e w1 ⟨rfl, rfl⟩
          go_wp2
          go_round
          case rel => exact ⟨k + 1, by omega, by go_num, HR⟩
          case measure => simp [intOf]; omega
        | false =>
          have hp := idxSp_neg h2
          have HR := Lib.hid (token_no (all_fails (p := tchar) (bl s) k hk2 (by rw [hx, tchar, h1, h2]; rfl)))
          clear ht hx h2
          go_wp2_with fail
          refine (letter_calls x _).mono ?_
          rintro e w1 ⟨rfl, rfl⟩
          go_wp2_with fail
          refine (idxSp_calls x _).mono ?_
          rintro e w1 ⟨rfl, rfl⟩
          go_wp2
          go_ret
          exact ⟨ret_bool HR.out.symm, rfl⟩
    · have HR := Lib.hid (token_end (all_full (p := tchar) (bl s) k (by rw [HL.out]; omega) ht.out))
      clear ht
      go_wp2
      go_ret
      exact ⟨ret_bool (by rw [HR.out, toList_bl]), rfl⟩







end Go.Proofs.YtglljdhhgmgbgaaDoor
