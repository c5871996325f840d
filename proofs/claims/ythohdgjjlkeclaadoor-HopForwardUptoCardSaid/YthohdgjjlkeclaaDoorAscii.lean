/- The character classes of HTTP: package ascii and its reference: what each function computes. -/
import Derived.Test.YthohdgjjlkeclaaDoorRows
import Derived.Test.YthohdgjjlkeclaaDoorPure
import Derived.Test.YthohdgjjlkeclaaDoorShelf
namespace Go.Proofs.YthohdgjjlkeclaaDoor
open Go.RowKit Go.Own
set_option linter.unusedVariables false






set_option maxHeartbeats 400000 in
theorem space_calls (c : UInt8) (w : World) :
    Calls Tryd.prog 70 #[.int .u8 (c.toNat : Int)] w fun e w' => e = .returned (.bool (blankB c)) ∧ w = w' := by
  go_enter Tryd.func70, Tryd.ntmps70
  go_wp2
  all_goals go_ret
  all_goals exact ⟨ret_bool (by rw [Bool.eq_iff_iff]; simp [blankB]; omega), rfl⟩

set_option maxHeartbeats 400000 in
theorem refBlank_calls (c : UInt8) (w : World) :
    Calls Tryd.prog 58 #[.int .u8 (c.toNat : Int)] w fun e w' => e = .returned (.bool (blankB c)) ∧ w = w' := by
  go_enter Tryd.func58, Tryd.ntmps58
  go_wp2
  all_goals go_ret
  all_goals exact ⟨ret_bool (by rw [Bool.eq_iff_iff]; simp [blankB]; omega), rfl⟩

set_option maxHeartbeats 1000000 in
theorem lower_calls (s : ByteArray) (w : World) (hs : s.size ≤ maxLen) :
    Calls Tryd.prog 45 #[.string s] w fun e w' => e = .returned (.string (lowerB s)) ∧ Below w.heap.size w w' := by
  go_enter Tryd.func45, Tryd.ntmps45
  go_wp2_with (refine wpList_strbytes_mut rfl 9 24 _ rfl _ rfl 5 Tryd.underlying9 Tryd.underlying24 Tryd.underlying5 ?_ hs; intro g cap w1 hb1 hg0 hg1 hcap hcm hmut)
  have hs2 : s.size ≤ 9223372036854775807 := by simpa [maxLen] using hs
  have hL := bl_length s
  have HL := Lib.hid hL
  clear hL
  go_loopw [4, 5, 10] (fun _ _ i wr => ∃ k : Nat, k ≤ s.size ∧ i = .int .i64 k ∧ Below w.heap.size w wr ∧ g < wr.heap.size ∧ MutC wr g (bytesV (lower ((bl s).take k) ++ (bl s).drop k))) (fun _ _ i _ => s.size - (intOf i).toNat)
  case atStart => exact ⟨0, Nat.zero_le _, rfl, hb1, hg1, by simpa [lower, bl] using hmut⟩
  case round =>
    obtain ⟨k, hk, rfl, hbr, hgr, hm⟩ := hrel
    clear hmut
    by_cases hlt : k < s.size
    · have hk2 : k < (bl s).length := by rw [HL.out]; exact hlt
      obtain ⟨hcell, hfr⟩ := lower_cell hm hk2
      have hm2 := lower_next hm hk2
      clear hm
      generalize (bl s)[k] = c at hcell hm2
      by_cases hup : 65 ≤ c.toNat ∧ c.toNat ≤ 90
      · have h1 : (65 : Int) ≤ (c.toNat : Int) := by omega
        have h2 : (c.toNat : Int) ≤ 90 := by omega
        have HM := Lib.hid (low1_up hup ▸ hm2.2)
        clear hm2 hup
        go_wp2
        go_roundw
        case rel => exact ⟨k + 1, by omega, by go_num, hbr.setCell hg0 _, by simpa using hgr, by first | exact HM.out | (rw [show ((c.toNat : Int) + 97 - 65) = (c.toNat : Int) + 32 from by omega]; exact HM.out)⟩
        case measure => simp [intOf]; omega
      · have HM := Lib.hid (hm2.1 (low1_no hup))
        clear hm2
        by_cases h1 : 65 ≤ c.toNat
        · have h2 : (65 : Int) ≤ (c.toNat : Int) := by omega
          have h3 : (90 : Int) < (c.toNat : Int) := by omega
          clear hup h1
          go_wp2
          go_roundw
          case rel => exact ⟨k + 1, by omega, by go_num, hbr, hgr, HM.out⟩
          case measure => simp [intOf]; omega
        · have h2 : (c.toNat : Int) < 65 := by omega
          clear hup h1
          go_wp2
          go_roundw
          case rel => exact ⟨k + 1, by omega, by go_num, hbr, hgr, HM.out⟩
          case measure => simp [intOf]; omega
    · have hd : (bl s).drop k = [] := List.drop_of_length_le (by rw [HL.out]; omega)
      have ht : (bl s).take k = bl s := List.take_of_length_le (by rw [HL.out]; omega)
      rw [hd, ht, List.append_nil] at hm
      have hR := hm.rd
      clear hm hd ht
      have HS := Lib.hid (lower_length (bl s))
      go_wp2_with (refine wpList_bytesstr rfl 24 9 _ rfl _ _ _ rfl 5 Tryd.underlying24 Tryd.underlying5 Tryd.underlying9 (lower (bl s)) (by rw [HS.out, HL.out]) hR ?_)
      go_ret
      exact ⟨rfl, hbr⟩

set_option maxHeartbeats 1000000 in
theorem refLower_calls (s : ByteArray) (w : World) (hs : s.size ≤ maxLen) :
    Calls Tryd.prog 57 #[.string s] w fun e w' => e = .returned (.string (lowerB s)) ∧ Below w.heap.size w w' := by
  go_enter Tryd.func57, Tryd.ntmps57
  go_wp2_with (refine wpList_strbytes_mut rfl 9 24 _ rfl _ rfl 5 Tryd.underlying9 Tryd.underlying24 Tryd.underlying5 ?_ hs; intro g cap w1 hb1 hg0 hg1 hcap hcm hmut)
  have hs2 : s.size ≤ 9223372036854775807 := by simpa [maxLen] using hs
  have hL := bl_length s
  have HL := Lib.hid hL
  clear hL
  go_loopw [4] (fun  i wr => ∃ k : Nat, k ≤ s.size ∧ i = .int .i64 k ∧ Below w.heap.size w wr ∧ g < wr.heap.size ∧ MutC wr g (bytesV (lower ((bl s).take k) ++ (bl s).drop k))) (fun  i _ => s.size - (intOf i).toNat)
  case atStart => exact ⟨0, Nat.zero_le _, rfl, hb1, hg1, by simpa [lower, bl] using hmut⟩
  case round =>
    obtain ⟨k, hk, rfl, hbr, hgr, hm⟩ := hrel
    clear hmut
    by_cases hlt : k < s.size
    · have hk2 : k < (bl s).length := by rw [HL.out]; exact hlt
      obtain ⟨hcell, hfr⟩ := lower_cell hm hk2
      have hm2 := lower_next hm hk2
      clear hm
      generalize (bl s)[k] = c at hcell hm2
      by_cases hup : 65 ≤ c.toNat ∧ c.toNat ≤ 90
      · have h1 : (65 : Int) ≤ (c.toNat : Int) := by omega
        have h2 : (c.toNat : Int) ≤ 90 := by omega
        have HM := Lib.hid (low1_up hup ▸ hm2.2)
        clear hm2 hup
        go_wp2
        go_roundw
        case rel => exact ⟨k + 1, by omega, by go_num, hbr.setCell hg0 _, by simpa using hgr, by first | exact HM.out | (rw [show ((c.toNat : Int) + 97 - 65) = (c.toNat : Int) + 32 from by omega]; exact HM.out)⟩
        case measure => simp [intOf]; omega
      · have HM := Lib.hid (hm2.1 (low1_no hup))
        clear hm2
        by_cases h1 : 65 ≤ c.toNat
        · have h2 : (65 : Int) ≤ (c.toNat : Int) := by omega
          have h3 : (90 : Int) < (c.toNat : Int) := by omega
          clear hup h1
          go_wp2
          go_roundw
          case rel => exact ⟨k + 1, by omega, by go_num, hbr, hgr, HM.out⟩
          case measure => simp [intOf]; omega
        · have h2 : (c.toNat : Int) < 65 := by omega
          clear hup h1
          go_wp2
          go_roundw
          case rel => exact ⟨k + 1, by omega, by go_num, hbr, hgr, HM.out⟩
          case measure => simp [intOf]; omega
    · have hd : (bl s).drop k = [] := List.drop_of_length_le (by rw [HL.out]; omega)
      have ht : (bl s).take k = bl s := List.take_of_length_le (by rw [HL.out]; omega)
      rw [hd, ht, List.append_nil] at hm
      have hR := hm.rd
      clear hm hd ht
      have HS := Lib.hid (lower_length (bl s))
      go_wp2_with (refine wpList_bytesstr rfl 24 9 _ rfl _ _ _ rfl 5 Tryd.underlying24 Tryd.underlying5 Tryd.underlying9 (lower (bl s)) (by rw [HS.out, HL.out]) hR ?_)
      go_ret
      exact ⟨rfl, hbr⟩



set_option maxHeartbeats 400000 in
theorem refFold_calls (a b : ByteArray) (w : World) (ha : a.size ≤ maxLen) (hb : b.size ≤ maxLen) :
    Calls Tryd.prog 38 #[.string a, .string b] w fun e w' => e = .returned (.bool (foldB a b)) ∧ Below w.heap.size w w' := by
  go_enter Tryd.func38, Tryd.ntmps38
  go_wp2_with fail
  refine (refLower_calls a _ ha).mono ?_
  rintro e w1 ⟨rfl, hb1⟩
  go_wp2_with fail
  refine (refLower_calls b _ hb).mono ?_
  rintro e w2 ⟨rfl, hb2⟩
  go_wp2
  go_ret
  exact ⟨rfl, Below.self_trans hb1 hb2⟩













end Go.Proofs.YthohdgjjlkeclaaDoor
