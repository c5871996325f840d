/- Package startline and its reference: targets, versions, the two parts of a target. -/
import Derived.Test.YtglljdhhgmgbgaaGreatDoorPA
import Derived.Test.YtglljdhhgmgbgaaGreatDoorField
import Derived.Laws.RangeAny
namespace Go.Proofs.YtglljdhhgmgbgaaGreatDoor
open Go.RowKit Go.Own
set_option linter.unusedVariables false
set_option maxHeartbeats 1000000

theorem targetC_no {s : ByteArray} {k : Nat} (hk : k < (bl s).length) (h : targetC (bl s)[k] = false) : targetB s = false := by
  unfold targetB
  have : (bl s).all targetC = false := by rw [List.all_eq_false]; exact ⟨(bl s)[k], List.getElem_mem hk, by simp [h]⟩
  rw [this]; rfl

theorem target_calls (s : ByteArray) (w : World) (hs : s.size ≤ maxLen) :
    Calls Tryz.prog 59 #[.string s] w fun e w' => e = .returned (.bool (targetB s)) ∧ Below w.heap.size w w' := by
  have hs2 : s.size ≤ 9223372036854775807 := by simpa [maxLen] using hs
  go_enter Tryz.func59, Tryz.ntmps59
  go_wp2
  go_loopw [4] (fun _ wr => ∃ k : Nat, k ≤ s.size ∧ wr = w.iter s k ∧ ((bl s).take k).all targetC = true) (fun _ wr => s.size - wr.iterPos w.heap.size)
  case atStart => exact ⟨0, Nat.zero_le _, rfl, by simp⟩
  case round =>
    obtain ⟨k, hk, rfl, hall⟩ := hrel
    by_cases hlt : k < s.size
    · have hk2 : k < (bl s).length := by rw [bl_length]; exact hlt
      have hc : s[k]'hlt = (bl s)[k] := rfl
      by_cases ha : (s[k]'hlt).toNat < 128
      · have hnx := fun ty => run_next_ascii (P := Tryz.prog) w s k ty hlt ha
        rw [hc] at hnx ha
        have HT := Lib.hid (List.take_succ_eq_append_getElem hk2)
        have HN := Lib.hid (fun h => targetC_no hk2 h)
        generalize (bl s)[k] = c at *
        by_cases c1 : c.toNat < 33
        · have a1 : (c.toNat : Int) < 33 := by omega
          have HR := Lib.hid (HN.out (by simp [targetC]; omega))
          clear HN HT hc
          go_wp2
          go_ret
          exact ⟨ret_bool HR.out.symm, (Below.refl _ _).alloc (Nat.le_refl _) _⟩
        · have a1 : ¬ (c.toNat : Int) < 33 := by omega
          by_cases c2 : 126 < c.toNat
          · have a2 : (126 : Int) < (c.toNat : Int) := by omega
            have HR := Lib.hid (HN.out (by simp [targetC]; omega))
            clear HN HT hc
            go_wp2
            go_ret
            exact ⟨ret_bool HR.out.symm, (Below.refl _ _).alloc (Nat.le_refl _) _⟩
          · have a2 : ¬ (126 : Int) < (c.toNat : Int) := by omega
            by_cases c3 : c.toNat = 35
            · have a3 : ((c.toNat : Int) == 35) = true := by simp; omega
              have HR := Lib.hid (HN.out (by simp [targetC]; omega))
              clear HN HT hc
              go_wp2
              go_ret
              exact ⟨ret_bool HR.out.symm, (Below.refl _ _).alloc (Nat.le_refl _) _⟩
            · have a3 : ((c.toNat : Int) == 35) = false := by simp; omega
              have HR := Lib.hid (show ((bl s).take (k + 1)).all targetC = true by rw [HT.out, List.all_append, hall]; simp [targetC]; omega)
              clear HN HT hc hall
              go_wp2
              go_roundw
              case rel => exact ⟨k + 1, by omega, rfl, HR.out⟩
              case measure => simp; omega
      · have hnx := fun ty => run_next_any (P := Tryz.prog) w s k ty hlt
        have hd := decode_big s k hlt (by omega)
        have HR := Lib.hid (targetC_no hk2 (by rw [← hc]; simp [targetC]; omega))
        generalize Utf8.decode s k = d at *
        have a1 : ¬ (d.1 : Int) < 33 := by omega
        have a2 : (126 : Int) < (d.1 : Int) := by omega
        clear hc ha hd
        go_wp2
        go_ret
        exact ⟨ret_bool HR.out.symm, (Below.refl _ _).alloc (Nat.le_refl _) _⟩
    · have hnx := fun ty => run_next_end (P := Tryz.prog) w s k ty hlt
      have HR := Lib.hid (show targetB s = Lib.hasPrefix s.data.toList (⟨#[47]⟩ : ByteArray).data.toList by
        rw [List.take_of_length_le (by rw [bl_length]; omega)] at hall
        unfold targetB Lib.hasPrefix
        rw [hall]
        show (_ && ((bl s).head? == some 47)) = List.isPrefixOf [47] (bl s)
        cases bl s with
        | nil => rfl
        | cons a r => simp [List.isPrefixOf]; exact BEq.comm)
      clear hall
      go_wp2_with fail
      refine (Tryz.strings_HasPrefix s ⟨#[47]⟩ _).mono ?_
      rintro e w1 ⟨rfl, rfl⟩
      go_wp2
      go_ret
      exact ⟨ret_bool HR.out.symm, (Below.refl _ _).alloc (Nat.le_refl _) _⟩

theorem refTarget_calls (s : ByteArray) (w : World) (hs : s.size ≤ maxLen) :
    Calls Tryz.prog 63 #[.string s] w fun e w' => e = .returned (.bool (targetB s)) ∧ w = w' := by
  have hs2 : s.size ≤ 9223372036854775807 := by simpa [maxLen] using hs
  have HL := Lib.hid (bl_length s)
  go_enter Tryz.func63, Tryz.ntmps63
  go_wp2
  go_loop [3] (fun i => ∃ k : Nat, k ≤ s.size ∧ i = .int .i64 k ∧ Hid (((bl s).take k).all targetC = true)) (fun i => s.size - (intOf i).toNat)
  case atStart => exact ⟨0, Nat.zero_le _, rfl, rfl⟩
  case round =>
    obtain ⟨k, hk, rfl, ht⟩ := hrel
    by_cases hlt : k < s.size
    · have hk2 : k < (bl s).length := by rw [HL.out]; exact hlt
      obtain ⟨x, hx, hsx⟩ := byte_split s k hlt
      have HT := Lib.hid (fun h : targetC x = true => Lib.hid (all_take_succ (p := targetC) (bl s) k hk2 ht.out (by rw [hx]; exact h)))
      have HF := Lib.hid (fun h : targetC x = false => targetC_no hk2 (by rw [hx]; exact h))
      clear ht hx
      by_cases c1 : x.toNat < 33
      · have a1 : (x.toNat : Int) < 33 := by omega
        have HR := Lib.hid (HF.out (by simp [targetC]; omega))
        clear HT HF
        go_wp2
        go_ret
        exact ⟨ret_bool HR.out.symm, rfl⟩
      · have a1 : ¬ (x.toNat : Int) < 33 := by omega
        by_cases c2 : 126 < x.toNat
        · have a2 : (126 : Int) < (x.toNat : Int) := by omega
          have HR := Lib.hid (HF.out (by simp [targetC]; omega))
          clear HT HF
          go_wp2
          go_ret
          exact ⟨ret_bool HR.out.symm, rfl⟩
        · have a2 : ¬ (126 : Int) < (x.toNat : Int) := by omega
          by_cases c3 : x.toNat = 35
          · have a3 : ((x.toNat : Int) == 35) = true := by simp; omega
            have HR := Lib.hid (HF.out (by simp [targetC]; omega))
            clear HT HF
            go_wp2
            go_ret
            exact ⟨ret_bool HR.out.symm, rfl⟩
          · have a3 : ((x.toNat : Int) == 35) = false := by simp; omega
            have HR := HT.out (by simp [targetC]; omega)
            clear HT HF
            go_wp2
            go_round
            case rel => exact ⟨k + 1, by omega, by go_num, HR⟩
            case measure => simp [intOf]; omega
    · have HR := Lib.hid (show targetB s = ((bl s).head? == some 47) by
        have hall := ht.out
        rw [List.take_of_length_le (by rw [bl_length]; omega)] at hall
        unfold targetB
        rw [hall]; rfl)
      clear ht
      by_cases h0 : s.size = 0
      · have e : s = .empty := bl_inj (List.eq_nil_of_length_eq_zero (by rw [bl_length]; exact h0))
        subst e
        go_wp2
        go_ret
        exact ⟨ret_bool (by rw [HR.out]; rfl), rfl⟩
      · obtain ⟨x, hx, hsx⟩ := byte_split s 0 (by omega)
        have HH := Lib.hid (show ((bl s).head? == some 47) = (x == 47) by
          rw [List.head?_eq_getElem?, List.getElem?_eq_getElem (by rw [bl_length]; omega), hx]; rfl)
        have hne : s.toList.isEmpty = false := by
          rw [toList_bl]
          cases e : bl s with
          | nil => exact absurd (by rw [← bl_length, e]; rfl) h0
          | cons _ _ => rfl
        have h00 : 0 < s.size := by omega
        clear hx
        go_wp2
        go_ret
        exact ⟨ret_bool (by rw [HR.out, HH.out, Bool.eq_iff_iff]; simp [← UInt8.toNat_inj]; omega), rfl⟩

theorem ldigit_calls (c : UInt8) (w : World) :
    Calls Tryz.prog 103 #[.int .u8 (c.toNat : Int)] w fun e w' => e = .returned (.bool (digitB c)) ∧ w = w' := by
  go_enter Tryz.func103, Tryz.ntmps103
  go_wp2
  all_goals go_ret
  all_goals exact ⟨ret_bool (by rw [Bool.eq_iff_iff]; simp [digitB]; omega), rfl⟩





/-- the minor of the reference -/
def rminor (s : ByteArray) : Int := if seq s http10 then 0 else if seq s http11 then 1 else -1
theorem v10 (s : ByteArray) (h : seq s http10 = false) : (s.toList == [72, 84, 84, 80, 47, 49, 46, 48]) = false := by
  rw [seq, toList_bl http10] at h; exact h
theorem v11 (s : ByteArray) (h : seq s http11 = false) : (s.toList == [72, 84, 84, 80, 47, 49, 46, 49]) = false := by
  rw [seq, toList_bl http11] at h; exact h
theorem rminor_calls (s : ByteArray) (w : World) :
    Calls Tryz.prog 77 #[.string s] w fun e w' => e = .returned (.int .i64 (rminor s)) ∧ w = w' := by
  cases h0 : seq s http10 with
  | true =>
    have HR := Lib.hid (show rminor s = 0 by unfold rminor; rw [if_pos h0])
    obtain rfl := (seq_iff _ _).1 h0
    unfold http10 at *
    go_enter Tryz.func77, Tryz.ntmps77
    go_wp2
    go_ret
    exact ⟨by rw [HR.out]; rfl, rfl⟩
  | false =>
    cases h1 : seq s http11 with
    | true =>
      have HR := Lib.hid (show rminor s = 1 by unfold rminor; rw [if_neg (by simp [h0]), if_pos h1])
      obtain rfl := (seq_iff _ _).1 h1
      clear h0 h1
      unfold http11 at *
      go_enter Tryz.func77, Tryz.ntmps77
      go_wp2
      go_ret
      exact ⟨by rw [HR.out]; rfl, rfl⟩
    | false =>
      have HR := Lib.hid (show rminor s = -1 by unfold rminor; rw [if_neg (by simp [h0]), if_neg (by simp [h1])])
      have a0 := v10 s h0
      have a1 := v11 s h1
      clear h0 h1
      go_enter Tryz.func77, Tryz.ntmps77
      go_wp2
      go_ret
      exact ⟨by rw [HR.out]; rfl, rfl⟩
end Go.Proofs.YtglljdhhgmgbgaaGreatDoor
