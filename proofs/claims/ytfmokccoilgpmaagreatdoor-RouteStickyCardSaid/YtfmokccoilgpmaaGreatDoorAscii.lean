/- The character classes of HTTP: package ascii and its reference: what each function computes. -/
import Derived.Test.YtfmokccoilgpmaaGreatDoorRows
import Derived.Test.YtfmokccoilgpmaaGreatDoorPA
import Derived.Test.YtfmokccoilgpmaaGreatDoorShelf
namespace Go.Proofs.YtfmokccoilgpmaaGreatDoor
open Go.RowKit Go.Own
set_option linter.unusedVariables false


set_option maxHeartbeats 400000 in
theorem letter_calls (c : UInt8) (w : World) :
    Calls Tryz.prog 101 #[.int .u8 (c.toNat : Int)] w fun e w' => e = .returned (.bool (letterB c)) ∧ w = w' := by
  go_enter Tryz.func101, Tryz.ntmps101
  go_wp2
  all_goals go_ret
  all_goals exact ⟨ret_bool (by rw [Bool.eq_iff_iff]; simp [letterB, digitB]; omega), rfl⟩

set_option maxHeartbeats 400000 in
theorem refDigit_calls (c : UInt8) (w : World) :
    Calls Tryz.prog 63 #[.int .u8 (c.toNat : Int)] w fun e w' => e = .returned (.bool (digitB c)) ∧ w = w' := by
  go_enter Tryz.func63, Tryz.ntmps63
  go_wp2
  all_goals go_ret
  all_goals exact ⟨ret_bool (by rw [Bool.eq_iff_iff]; simp [digitB]; omega), rfl⟩

set_option maxHeartbeats 400000 in
theorem space_calls (c : UInt8) (w : World) :
    Calls Tryz.prog 100 #[.int .u8 (c.toNat : Int)] w fun e w' => e = .returned (.bool (blankB c)) ∧ w = w' := by
  go_enter Tryz.func100, Tryz.ntmps100
  go_wp2
  all_goals go_ret
  all_goals exact ⟨ret_bool (by rw [Bool.eq_iff_iff]; simp [blankB]; omega), rfl⟩

set_option maxHeartbeats 400000 in
theorem refBlank_calls (c : UInt8) (w : World) :
    Calls Tryz.prog 111 #[.int .u8 (c.toNat : Int)] w fun e w' => e = .returned (.bool (blankB c)) ∧ w = w' := by
  go_enter Tryz.func111, Tryz.ntmps111
  go_wp2
  all_goals go_ret
  all_goals exact ⟨ret_bool (by rw [Bool.eq_iff_iff]; simp [blankB]; omega), rfl⟩

set_option maxHeartbeats 1000000 in
theorem lower_calls (s : ByteArray) (w : World) (hs : s.size ≤ maxLen) :
    Calls Tryz.prog 116 #[.string s] w fun e w' => e = .returned (.string (lowerB s)) ∧ Below w.heap.size w w' := by
  go_enter Tryz.func116, Tryz.ntmps116
  go_wp2_with (refine wpList_strbytes_mut rfl 9 33 _ rfl _ rfl 5 Tryz.underlying9 Tryz.underlying33 Tryz.underlying5 ?_ hs; intro g cap w1 hb1 hg0 hg1 hcap hcm hmut)
  have hs2 : s.size ≤ 9223372036854775807 := by simpa [maxLen] using hs
  have hL := bl_length s
  have HL := Lib.hid hL
  clear hL
  go_loopw [4, 5, 10] (fun _ _ i wr => ∃ k : Nat, k ≤ s.size ∧ i = .int .i64 k ∧ Below w.heap.size w wr ∧ g < wr.heap.size ∧ MutC wr g (bytesV (lower ((bl s).take k) ++ (bl s).drop k))) (fun _ _ i _ => s.size - (intOf i).toNat)
  case atStart => exact ⟨0, Nat.zero_le _, rfl, hb1, hg1, by simpa [lower, bl] using hmut⟩
  case round =>
    obtain ⟨k, hk, rfl, hbr, hgr, hm⟩ := hrel
    clear hmut
    by_cases hlt : k < s.size
    · have hk2 : k < (bl s).length := by rw [HL.out]; exact hlt
      obtain ⟨hcell, hfr⟩ := lower_cell hm hk2
      have hm2 := lower_next hm hk2
      clear hm
      generalize (bl s)[k] = c at hcell hm2
      by_cases hup : 65 ≤ c.toNat ∧ c.toNat ≤ 90
      · have h1 : (65 : Int) ≤ (c.toNat : Int) := by omega
        have h2 : (c.toNat : Int) ≤ 90 := by omega
        have HM := Lib.hid (low1_up hup ▸ hm2.2)
        clear hm2 hup
        go_wp2
        go_roundw
        case rel => exact ⟨k + 1, by omega, by go_num, hbr.setCell hg0 _, by simpa using hgr, by first | exact HM.out | (rw [show ((c.toNat : Int) + 97 - 65) = (c.toNat : Int) + 32 from by omega]; exact HM.out)⟩
        case measure => simp [intOf]; omega
      · have HM := Lib.hid (hm2.1 (low1_no hup))
        clear hm2
        by_cases h1 : 65 ≤ c.toNat
        · have h2 : (65 : Int) ≤ (c.toNat : Int) := by omega
          have h3 : (90 : Int) < (c.toNat : Int) := by omega
          clear hup h1
          go_wp2
          go_roundw
          case rel => exact ⟨k + 1, by omega, by go_num, hbr, hgr, HM.out⟩
          case measure => simp [intOf]; omega
        · have h2 : (c.toNat : Int) < 65 := by omega
          clear hup h1
          go_wp2
          go_roundw
          case rel => exact ⟨k + 1, by omega, by go_num, hbr, hgr, HM.out⟩
          case measure => simp [intOf]; omega
    · have hd : (bl s).drop k = [] := List.drop_of_length_le (by rw [HL.out]; omega)
      have ht : (bl s).take k = bl s := List.take_of_length_le (by rw [HL.out]; omega)
      rw [hd, ht, List.append_nil] at hm
      have hR := hm.rd
      clear hm hd ht
      have HS := Lib.hid (lower_length (bl s))
      go_wp2_with (refine wpList_bytesstr rfl 33 9 _ rfl _ _ _ rfl 5 Tryz.underlying33 Tryz.underlying5 Tryz.underlying9 (lower (bl s)) (by rw [HS.out, HL.out]) hR ?_)
      go_ret
      exact ⟨rfl, hbr⟩

set_option maxHeartbeats 1000000 in
theorem refLower_calls (s : ByteArray) (w : World) (hs : s.size ≤ maxLen) :
    Calls Tryz.prog 128 #[.string s] w fun e w' => e = .returned (.string (lowerB s)) ∧ Below w.heap.size w w' := by
  go_enter Tryz.func128, Tryz.ntmps128
  go_wp2_with (refine wpList_strbytes_mut rfl 9 33 _ rfl _ rfl 5 Tryz.underlying9 Tryz.underlying33 Tryz.underlying5 ?_ hs; intro g cap w1 hb1 hg0 hg1 hcap hcm hmut)
  have hs2 : s.size ≤ 9223372036854775807 := by simpa [maxLen] using hs
  have hL := bl_length s
  have HL := Lib.hid hL
  clear hL
  go_loopw [4] (fun  i wr => ∃ k : Nat, k ≤ s.size ∧ i = .int .i64 k ∧ Below w.heap.size w wr ∧ g < wr.heap.size ∧ MutC wr g (bytesV (lower ((bl s).take k) ++ (bl s).drop k))) (fun  i _ => s.size - (intOf i).toNat)
  case atStart => exact ⟨0, Nat.zero_le _, rfl, hb1, hg1, by simpa [lower, bl] using hmut⟩
  case round =>
    obtain ⟨k, hk, rfl, hbr, hgr, hm⟩ := hrel
    clear hmut
    by_cases hlt : k < s.size
    · have hk2 : k < (bl s).length := by rw [HL.out]; exact hlt
      obtain ⟨hcell, hfr⟩ := lower_cell hm hk2
      have hm2 := lower_next hm hk2
      clear hm
      generalize (bl s)[k] = c at hcell hm2
      by_cases hup : 65 ≤ c.toNat ∧ c.toNat ≤ 90
      · have h1 : (65 : Int) ≤ (c.toNat : Int) := by omega
        have h2 : (c.toNat : Int) ≤ 90 := by omega
        have HM := Lib.hid (low1_up hup ▸ hm2.2)
        clear hm2 hup
        go_wp2
        go_roundw
        case rel => exact ⟨k + 1, by omega, by go_num, hbr.setCell hg0 _, by simpa using hgr, by first | exact HM.out | (rw [show ((c.toNat : Int) + 97 - 65) = (c.toNat : Int) + 32 from by omega]; exact HM.out)⟩
        case measure => simp [intOf]; omega
      · have HM := Lib.hid (hm2.1 (low1_no hup))
        clear hm2
        by_cases h1 : 65 ≤ c.toNat
        · have h2 : (65 : Int) ≤ (c.toNat : Int) := by omega
          have h3 : (90 : Int) < (c.toNat : Int) := by omega
          clear hup h1
          go_wp2
          go_roundw
          case rel => exact ⟨k + 1, by omega, by go_num, hbr, hgr, HM.out⟩
          case measure => simp [intOf]; omega
        · have h2 : (c.toNat : Int) < 65 := by omega
          clear hup h1
          go_wp2
          go_roundw
          case rel => exact ⟨k + 1, by omega, by go_num, hbr, hgr, HM.out⟩
          case measure => simp [intOf]; omega
    · have hd : (bl s).drop k = [] := List.drop_of_length_le (by rw [HL.out]; omega)
      have ht : (bl s).take k = bl s := List.take_of_length_le (by rw [HL.out]; omega)
      rw [hd, ht, List.append_nil] at hm
      have hR := hm.rd
      clear hm hd ht
      have HS := Lib.hid (lower_length (bl s))
      go_wp2_with (refine wpList_bytesstr rfl 33 9 _ rfl _ _ _ rfl 5 Tryz.underlying33 Tryz.underlying5 Tryz.underlying9 (lower (bl s)) (by rw [HS.out, HL.out]) hR ?_)
      go_ret
      exact ⟨rfl, hbr⟩



set_option maxHeartbeats 400000 in
theorem refFold_calls (a b : ByteArray) (w : World) (ha : a.size ≤ maxLen) (hb : b.size ≤ maxLen) :
    Calls Tryz.prog 110 #[.string a, .string b] w fun e w' => e = .returned (.bool (foldB a b)) ∧ Below w.heap.size w w' := by
  go_enter Tryz.func110, Tryz.ntmps110
  go_wp2_with fail
  refine (refLower_calls a _ ha).mono ?_
  rintro e w1 ⟨rfl, hb1⟩
  go_wp2_with fail
  refine (refLower_calls b _ hb).mono ?_
  rintro e w2 ⟨rfl, hb2⟩
  go_wp2
  go_ret
  exact ⟨rfl, Below.self_trans hb1 hb2⟩

set_option maxHeartbeats 400000 in
theorem refHas_calls (s : ByteArray) (c : UInt8) (w : World) (hs : s.size ≤ maxLen) :
    Calls Tryz.prog 112 #[.string s, .int .u8 (c.toNat : Int)] w fun e w' => e = .returned (.bool (hasB (bl s) c)) ∧ w = w' := by
  have hs2 : s.size ≤ 9223372036854775807 := by simpa [maxLen] using hs
  have HL := Lib.hid (bl_length s)
  go_enter Tryz.func112, Tryz.ntmps112
  go_wp2
  go_loop [5] (fun i => ∃ k : Nat, k ≤ s.size ∧ i = .int .i64 k ∧ Hid (hasB ((bl s).take k) c = false)) (fun i => s.size - (intOf i).toNat)
  case atStart => exact ⟨0, Nat.zero_le _, rfl, rfl⟩
  case round =>
    obtain ⟨k, hk, rfl, ht⟩ := hrel
    by_cases hlt : k < s.size
    · have hk2 : k < (bl s).length := by rw [HL.out]; exact hlt
      obtain ⟨x, hx, hsx⟩ := byte_split s k hlt
      by_cases he : x = c
      · have hg : ((x.toNat : Int) == (c.toNat : Int)) = true := by rw [he]; simp
        have HR := Lib.hid (hasB_at (bl s) k hk2 (hx.trans he))
        clear hx he
        go_wp2
        go_ret
        exact ⟨ret_bool HR.out.symm, rfl⟩
      · have hg : ((x.toNat : Int) == (c.toNat : Int)) = false := byte_ne he
        have HR := Lib.hid (hasB_succ (bl s) k hk2 ht.out (by rw [hx]; exact he))
        clear ht he hx
        go_wp2
        go_round
        case rel => exact ⟨k + 1, by omega, by go_num, HR⟩
        case measure => simp [intOf]; omega
    · have HR := Lib.hid (hasB_full (bl s) k (by rw [HL.out]; omega) ht.out)
      clear ht
      go_wp2
      go_ret
      exact ⟨ret_bool HR.out.symm, rfl⟩

def idxSp (c : UInt8) : Int := Lib.indexByte specials c
theorem idxSp_neg {c : UInt8} (h : specialB c = false) : idxSp c < 0 := by
  rw [idxSp, indexByte_miss h]; decide
theorem idxSp_pos {c : UInt8} (h : specialB c = true) : 0 ≤ idxSp c := indexByte_hit h
set_option maxHeartbeats 400000 in
theorem idxSp_calls (c : UInt8) (w : World) :
    Calls Tryz.prog 102 #[.string ⟨#[33, 35, 36, 37, 38, 39, 42, 43, 45, 46, 94, 95, 96, 124, 126]⟩, .int .u8 (c.toNat : Int)] w fun e w' => e = .returned (.int .i64 (idxSp c)) ∧ w = w' := by
  refine (Tryz.strings_IndexByte _ _ w).mono ?_
  rintro e w' ⟨rfl, rfl⟩
  exact ⟨ret_int (by simp [idxSp, specials]), rfl⟩

set_option maxHeartbeats 1000000 in
theorem token_calls (s : ByteArray) (w : World) (hs : s.size ≤ maxLen) :
    Calls Tryz.prog 81 #[.string s] w fun e w' => e = .returned (.bool (token (bl s))) ∧ w = w' := by
  have hs2 : s.size ≤ 9223372036854775807 := by simpa [maxLen] using hs
  have HL := Lib.hid (bl_length s)
  go_enter Tryz.func81, Tryz.ntmps81
  go_wp2
  go_loop [3, 6] (fun _ i => ∃ k : Nat, k ≤ s.size ∧ i = .int .i64 k ∧ Hid (((bl s).take k).all tchar = true)) (fun _ i => s.size - (intOf i).toNat)
  case atStart => exact ⟨0, Nat.zero_le _, rfl, rfl⟩
  case round =>
    obtain ⟨k, hk, rfl, ht⟩ := hrel
    by_cases hlt : k < s.size
    · have hk2 : k < (bl s).length := by rw [HL.out]; exact hlt
      obtain ⟨x, hx, hsx⟩ := byte_split s k hlt
      cases h1 : letterB x with
      | true =>
        have HR := Lib.hid (all_take_succ (p := tchar) (bl s) k hk2 ht.out (by rw [hx, tchar, h1]; rfl))
        clear ht hx
        go_wp2_with fail
        refine (letter_calls x _).mono ?_
        rintro e w1 ⟨rfl, rfl⟩
        go_wp2
        go_round
        case rel => exact ⟨k + 1, by omega, by go_num, HR⟩
        case measure => simp [intOf]; omega
      | false =>
        cases h2 : specialB x with
        | true =>
          have hp := idxSp_pos h2
          have HR := Lib.hid (all_take_succ (p := tchar) (bl s) k hk2 ht.out (by rw [hx, tchar, h1, h2]; rfl))
          clear ht hx h2
          go_wp2_with fail
          refine (letter_calls x _).mono ?_
          rintro e w1 ⟨rfl, rfl⟩
          go_wp2_with fail
          refine (idxSp_calls x _).mono ?_
          rintro e w1 ⟨rfl, rfl⟩
          go_wp2
          go_round
          case rel => exact ⟨k + 1, by omega, by go_num, HR⟩
          case measure => simp [intOf]; omega
        | false =>
          have hp := idxSp_neg h2
          have HR := Lib.hid (token_no (all_fails (p := tchar) (bl s) k hk2 (by rw [hx, tchar, h1, h2]; rfl)))
          clear ht hx h2
          go_wp2_with fail
          refine (letter_calls x _).mono ?_
          rintro e w1 ⟨rfl, rfl⟩
          go_wp2_with fail
          refine (idxSp_calls x _).mono ?_
          rintro e w1 ⟨rfl, rfl⟩
          go_wp2
          go_ret
          exact ⟨ret_bool HR.out.symm, rfl⟩
    · have HR := Lib.hid (token_end (all_full (p := tchar) (bl s) k (by rw [HL.out]; omega) ht.out))
      clear ht
      go_wp2
      go_ret
      exact ⟨ret_bool (by rw [HR.out, toList_bl]), rfl⟩

theorem refDigit_t (x : UInt8) (w : World) (h : digitB x = true) : Calls Tryz.prog 63 #[.int .u8 (x.toNat : Int)] w fun e w' => e = .returned (.bool true) ∧ w = w' := h ▸ refDigit_calls x w
theorem refDigit_f (x : UInt8) (w : World) (h : digitB x = false) : Calls Tryz.prog 63 #[.int .u8 (x.toNat : Int)] w fun e w' => e = .returned (.bool false) ∧ w = w' := h ▸ refDigit_calls x w
theorem refSp_calls (x : UInt8) (w : World) : Calls Tryz.prog 112 #[.string ⟨#[33, 35, 36, 37, 38, 39, 42, 43, 45, 46, 94, 95, 96, 124, 126]⟩, .int .u8 (x.toNat : Int)] w fun e w' => e = .returned (.bool (specialB x)) ∧ w = w' :=
  refHas_calls _ x w (by decide)

set_option maxHeartbeats 1000000 in
theorem refToken_calls (s : ByteArray) (w : World) (hs : s.size ≤ maxLen) :
    Calls Tryz.prog 88 #[.string s] w fun e w' => e = .returned (.bool (token (bl s))) ∧ w = w' := by
  have hs2 : s.size ≤ 9223372036854775807 := by simpa [maxLen] using hs
  have HL := Lib.hid (bl_length s)
  go_enter Tryz.func88, Tryz.ntmps88
  go_wp2
  go_loop [3] (fun i => ∃ k : Nat, k ≤ s.size ∧ i = .int .i64 k ∧ Hid (((bl s).take k).all tchar = true)) (fun i => s.size - (intOf i).toNat)
  case atStart => exact ⟨0, Nat.zero_le _, rfl, rfl⟩
  case round =>
    obtain ⟨k, hk, rfl, ht⟩ := hrel
    by_cases hlt : k < s.size
    · have hk2 : k < (bl s).length := by rw [HL.out]; exact hlt
      obtain ⟨x, hx, hsx⟩ := byte_split s k hlt
      have HT := Lib.hid (fun h : tchar x = true => Lib.hid (all_take_succ (p := tchar) (bl s) k hk2 ht.out (by rw [hx]; exact h)))
      have HF := Lib.hid (fun h : tchar x = false => token_no (all_fails (p := tchar) (bl s) k hk2 (by rw [hx]; exact h)))
      clear ht hx
      by_cases hA : 65 ≤ x.toNat ∧ x.toNat ≤ 90
      · have h1 : (65 : Int) ≤ (x.toNat : Int) := by omega
        have h2 : (x.toNat : Int) ≤ 90 := by omega
        have HR := HT.out (by simp [tchar, letterB, hA])
        clear HT HF hA
        go_wp2
        go_round
        case rel => exact ⟨k + 1, by omega, by go_num, HR⟩
        case measure => simp [intOf]; omega
      by_cases hB : 97 ≤ x.toNat ∧ x.toNat ≤ 122
      · have h1 : (97 : Int) ≤ (x.toNat : Int) := by omega
        have h2 : (x.toNat : Int) ≤ 122 := by omega
        have HR := HT.out (by simp [tchar, letterB, hB])
        clear HT HF hA hB
        go_wp2
        go_round
        case rel => exact ⟨k + 1, by omega, by go_num, HR⟩
        case measure => simp [intOf]; omega
      have hAB : ((decide (65 ≤ x.toNat) && decide (x.toNat ≤ 90)) || (decide (97 ≤ x.toNat) && decide (x.toNat ≤ 122))) = false := by
        simp only [Bool.or_eq_false_iff, Bool.and_eq_false_iff, decide_eq_false_iff_not]; omega
      cases hC : digitB x with
      | true =>
        have hd : (x.toNat : Int) < 65 := by simp [digitB] at hC; omega
        have HR := HT.out (by simp [tchar, letterB, hC])
        have HC := Lib.hid hC
        clear HT HF hA hB hAB hC
        go_wp2_with (go_at_call 63; refine (refDigit_t x _ HC.out).mono ?_; rintro e w1 ⟨rfl, rfl⟩)
        go_round
        case rel => exact ⟨k + 1, by omega, by go_num, HR⟩
        case measure => simp [intOf]; omega
      | false =>
        have hl : letterB x = false := by rw [letterB, hAB, hC]; rfl
        have HC := Lib.hid hC
        have hA' : (x.toNat : Int) < 65 ∨ (90 : Int) < (x.toNat : Int) := by omega
        have hB' : (x.toNat : Int) < 97 ∨ (122 : Int) < (x.toNat : Int) := by omega
        cases h3 : specialB x with
        | true =>
          have HR := HT.out (by rw [tchar, h3, Bool.or_true])
          have H3 := Lib.hid h3
          clear HT HF hA hB hAB hC hl h3
          rcases hA' with hA' | hA' <;> rcases hB' with hB' | hB'
          all_goals
            try have h65 : (65 : Int) ≤ (x.toNat : Int) := by omega
            try have h97 : (97 : Int) ≤ (x.toNat : Int) := by omega
            try have n90 : decide ((x.toNat : Int) ≤ 90) = false := by rw [decide_eq_false_iff_not]; omega
            try have n122 : decide ((x.toNat : Int) ≤ 122) = false := by rw [decide_eq_false_iff_not]; omega
            go_wp2_with (first | (go_at_call 63; refine (refDigit_f x _ HC.out).mono ?_; rintro e w1 ⟨rfl, rfl⟩) | (go_at_call 112; refine (refSp_calls x _).mono ?_; rintro e w1 ⟨rfl, rfl⟩; rw [H3.out]))
            try go_round
            try case rel => exact ⟨k + 1, by omega, by go_num, HR⟩
            try case measure => simp [intOf]; omega
        | false =>
          have HR := Lib.hid (HF.out (by rw [tchar, h3, hl]; rfl))
          have H3 := Lib.hid h3
          clear HT HF hA hB hAB hC hl h3
          rcases hA' with hA' | hA' <;> rcases hB' with hB' | hB'
          all_goals
            try have h65 : (65 : Int) ≤ (x.toNat : Int) := by omega
            try have h97 : (97 : Int) ≤ (x.toNat : Int) := by omega
            try have n90 : decide ((x.toNat : Int) ≤ 90) = false := by rw [decide_eq_false_iff_not]; omega
            try have n122 : decide ((x.toNat : Int) ≤ 122) = false := by rw [decide_eq_false_iff_not]; omega
            go_wp2_with (first | (go_at_call 63; refine (refDigit_f x _ HC.out).mono ?_; rintro e w1 ⟨rfl, rfl⟩) | (go_at_call 112; refine (refSp_calls x _).mono ?_; rintro e w1 ⟨rfl, rfl⟩; rw [H3.out]))
            try go_ret
            try exact ⟨ret_bool HR.out.symm, rfl⟩
    · have HR := Lib.hid (token_end (all_full (p := tchar) (bl s) k (by rw [HL.out]; omega) ht.out))
      clear ht
      go_wp2
      go_ret
      exact ⟨ret_bool (by rw [HR.out, toList_bl]), rfl⟩



end Go.Proofs.YtfmokccoilgpmaaGreatDoor
