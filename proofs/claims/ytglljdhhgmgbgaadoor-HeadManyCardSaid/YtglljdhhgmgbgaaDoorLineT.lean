/- Package startline and its reference: targets, versions, the two parts of a target. -/
import Derived.Test.YtglljdhhgmgbgaaDoorPA
import Derived.Test.YtglljdhhgmgbgaaDoorField
import Derived.Laws.RangeAny
namespace Go.Proofs.YtglljdhhgmgbgaaDoor
open Go.RowKit Go.Own
set_option linter.unusedVariables false
set_option maxHeartbeats 1000000

theorem targetC_no {s : ByteArray} {k : Nat} (hk : k < (bl s).length) (h : targetC (bl s)[k] = false) : targetB s = false := by
  unfold targetB
  have : (bl s).all targetC = false := by rw [List.all_eq_false]; exact ⟨(bl s)[k], List.getElem_mem hk, by simp [h]⟩
  rw [this]; rfl

theorem target_calls (s : ByteArray) (w : World) (hs : s.size ≤ maxLen) :
    Calls Tryd.prog 21 #[.string s] w fun e w' => e = .returned (.bool (targetB s)) ∧ Below w.heap.size w w' := by
  have hs2 : s.size ≤ 9223372036854775807 := by simpa [maxLen] using hs
  go_enter Tryd.func21, Tryd.ntmps21
  go_wp2
  go_loopw [4] (fun _ wr => ∃ k : Nat, k ≤ s.size ∧ wr = w.iter s k ∧ ((bl s).take k).all targetC = true) (fun _ wr => s.size - wr.iterPos w.heap.size)
  case atStart => exact ⟨0, Nat.zero_le _, rfl, by simp⟩
  case round =>
    obtain ⟨k, hk, rfl, hall⟩ := hrel
    by_cases hlt : k < s.size
    · have hk2 : k < (bl s).length := by rw [bl_length]; exact hlt
      have hc : s[k]'hlt = (bl s)[k] := rfl
      by_cases ha : (s[k]'hlt).toNat < 128
      · have hnx := fun ty => run_next_ascii (P := Tryd.prog) w s k ty hlt ha
        rw [hc] at hnx ha
        have HT := Lib.hid (List.take_succ_eq_append_getElem hk2)
        have HN := Lib.hid (fun h => targetC_no hk2 h)
        generalize (bl s)[k] = c at *
        by_cases c1 : c.toNat < 33
        · have a1 : (c.toNat : Int) < 33 := by omega
          have HR := Lib.hid (HN.out (by simp [targetC]; omega))
          clear HN HT hc
          go_wp2
          go_ret
          exact ⟨ret_bool HR.out.symm, (Below.refl _ _).alloc (Nat.le_refl _) _⟩
        · have a1 : ¬ (c.toNat : Int) < 33 := by omega
          by_cases c2 : 126 < c.toNat
          · have a2 : (126 : Int) < (c.toNat : Int) := by omega
            have HR := Lib.hid (HN.out (by simp [targetC]; omega))
            clear HN HT hc
            go_wp2
            go_ret
            exact ⟨ret_bool HR.out.symm, (Below.refl _ _).alloc (Nat.le_refl _) _⟩
          · have a2 : ¬ (126 : Int) < (c.toNat : Int) := by omega
            by_cases c3 : c.toNat = 35
            · have a3 : ((c.toNat : Int) == 35) = true := by simp; omega
              have HR := Lib.hid (HN.out (by simp [targetC]; omega))
              clear HN HT hc
              go_wp2
              go_ret
              exact ⟨ret_bool HR.out.symm, (Below.refl _ _).alloc (Nat.le_refl _) _⟩
            · have a3 : ((c.toNat : Int) == 35) = false := by simp; omega
              have HR := Lib.hid (show ((bl s).take (k + 1)).all targetC = true by rw [HT.out, List.all_append, hall]; simp [targetC]; omega)
              clear HN HT hc hall
              go_wp2
              go_roundw
              case rel => exact ⟨k + 1, by omega, rfl, HR.out⟩
              case measure => simp; omega
      · have hnx := fun ty => run_next_any (P := Tryd.prog) w s k ty hlt
        have hd := decode_big s k hlt (by omega)
        have HR := Lib.hid (targetC_no hk2 (by rw [← hc]; simp [targetC]; omega))
        generalize Utf8.decode s k = d at *
        have a1 : ¬ (d.1 : Int) < 33 := by omega
        have a2 : (126 : Int) < (d.1 : Int) := by omega
        clear hc ha hd
        go_wp2
        go_ret
        exact ⟨ret_bool HR.out.symm, (Below.refl _ _).alloc (Nat.le_refl _) _⟩
    · have hnx := fun ty => run_next_end (P := Tryd.prog) w s k ty hlt
      have HR := Lib.hid (show targetB s = Lib.hasPrefix s.data.toList (⟨#[47]⟩ : ByteArray).data.toList by
        rw [List.take_of_length_le (by rw [bl_length]; omega)] at hall
        unfold targetB Lib.hasPrefix
        rw [hall]
        show (_ && ((bl s).head? == some 47)) = List.isPrefixOf [47] (bl s)
        cases bl s with
        | nil => rfl
        | cons a r => simp [List.isPrefixOf]; exact BEq.comm)
      clear hall
      go_wp2_with fail
      refine (Tryd.strings_HasPrefix s ⟨#[47]⟩ _).mono ?_
      rintro e w1 ⟨rfl, rfl⟩
      go_wp2
      go_ret
      exact ⟨ret_bool HR.out.symm, (Below.refl _ _).alloc (Nat.le_refl _) _⟩



theorem ldigit_calls (c : UInt8) (w : World) :
    Calls Tryd.prog 36 #[.int .u8 (c.toNat : Int)] w fun e w' => e = .returned (.bool (digitB c)) ∧ w = w' := by
  go_enter Tryd.func36, Tryd.ntmps36
  go_wp2
  all_goals go_ret
  all_goals exact ⟨ret_bool (by rw [Bool.eq_iff_iff]; simp [digitB]; omega), rfl⟩





/-- the minor of the reference -/
def rminor (s : ByteArray) : Int := if seq s http10 then 0 else if seq s http11 then 1 else -1
theorem v10 (s : ByteArray) (h : seq s http10 = false) : (s.toList == [72, 84, 84, 80, 47, 49, 46, 48]) = false := by
  rw [seq, toList_bl http10] at h; exact h
theorem v11 (s : ByteArray) (h : seq s http11 = false) : (s.toList == [72, 84, 84, 80, 47, 49, 46, 49]) = false := by
  rw [seq, toList_bl http11] at h; exact h
end Go.Proofs.YtglljdhhgmgbgaaDoor