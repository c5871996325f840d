/- Package startline: versions and reasons; reading of numbers. -/
import Derived.Test.YtglljdhhgmgbgaaDoorLineT
import Derived.Test.YtglljdhhgmgbgaaDoorNumParse
namespace Go.Proofs.YtglljdhhgmgbgaaDoor
open Go.RowKit Go.Own
set_option linter.unusedVariables false
set_option maxHeartbeats 1000000



theorem ldigit_quiet (c : UInt8) (w : World) :
    Calls Tryd.prog 36 #[.int .u8 (c.toNat : Int)] w fun e w' => e = .returned (.bool (digitB c)) ∧ w' = w :=
  (ldigit_calls c w).mono fun e w' ⟨he, hw⟩ => ⟨he, hw.symm⟩

theorem minor_calls (s : ByteArray) (w : World) (hs : s.size ≤ maxLen) :
    Calls Tryd.prog 22 #[.string s] w fun e w' => e = .returned (.tuple #[.int .i64 (minorB s).1, .int .i64 (minorB s).2]) ∧ Below w.heap.size w w' := by
  cases h0 : seq s http10 with
  | true =>
    have HR := Lib.hid (minorB_10 h0)
    obtain rfl := (seq_iff _ _).1 h0
    clear h0
    unfold http10 at *
    go_enter Tryd.func22, Tryd.ntmps22
    go_wp2
    refine bodyPost_ret (v := .tuple #[.int .i64 0, .int .i64 0]) (by simp [results, Tryd.results22, go_sem]) rfl ⟨by rw [HR.out], Below.refl _ _⟩
  | false =>
    cases h1 : seq s http11 with
    | true =>
      have HR := Lib.hid (minorB_11 h0 h1)
      obtain rfl := (seq_iff _ _).1 h1
      clear h0 h1
      unfold http11 at *
      go_enter Tryd.func22, Tryd.ntmps22
      go_wp2
      refine bodyPost_ret (v := .tuple #[.int .i64 1, .int .i64 0]) (by simp [results, Tryd.results22, go_sem]) rfl ⟨by rw [HR.out], Below.refl _ _⟩
    | false =>
      have a0 := v10 s h0
      have a1 := v11 s h1
      by_cases h8 : s.size = 8
      · have h5 : 5 < s.size := by omega
        have h6 : 6 < s.size := by omega
        have h7 : 7 < s.size := by omega
        obtain ⟨x5, e5, f5⟩ := byte_split s 5 h5
        obtain ⟨x6, e6, f6⟩ := byte_split s 6 h6
        obtain ⟨x7, e7, f7⟩ := byte_split s 7 h7
        have HV := Lib.hid (show isVersion (bl s) = (((s.extract 0 5).toList == [72, 84, 84, 80, 47]) && digitB x5 && (x6 == 46) && digitB x7) by
          unfold isVersion
          rw [toList_bl, bl_extract, bl_length, h8]
          rw [List.getD_eq_getElem?_getD, List.getD_eq_getElem?_getD, List.getD_eq_getElem?_getD, List.getElem?_eq_getElem (by rw [bl_length]; omega), List.getElem?_eq_getElem (by rw [bl_length]; omega), List.getElem?_eq_getElem (by rw [bl_length]; omega), e5, e6, e7]
          rfl)
        have HY := Lib.hid (fun h => minorB_un h0 h1 h)
        have HN := Lib.hid (fun h => minorB_no h0 h1 h)
        clear h0 h1 e5 e6 e7
        have b8 : ((s.size : Int) == 8) = true := by simp; omega
        have s5 : 5 ≤ s.size := by omega
        have i5 : (5 : Int) ≤ (s.size : Int) := by omega
        have j5 : (5 : Int) < (s.size : Int) := by omega
        have j6 : (6 : Int) < (s.size : Int) := by omega
        have j7 : (7 : Int) < (s.size : Int) := by omega
        have C5 := Lib.hid (fun w => ldigit_quiet x5 w)
        have C7 := Lib.hid (fun w => ldigit_quiet x7 w)
        have X6 := Lib.hid (show ((x6.toNat : Int) == 46) = (x6 == 46) by rw [Bool.eq_iff_iff]; simp [← UInt8.toNat_inj]; omega)
        have XE := Lib.hid (show (⟨#[72, 84, 84, 80, 47, 49, 46]⟩ : ByteArray).extract 0 5 = ⟨#[72, 84, 84, 80, 47]⟩ by decide +kernel)
        have XL := Lib.hid (show (⟨#[72, 84, 84, 80, 47]⟩ : ByteArray).toList = [72, 84, 84, 80, 47] from toList_bl _)
        clear h8
        have HM : Hid (minorB s = if isVersion (bl s) then (0, 6) else (0, 2)) := Lib.hid (by cases e : isVersion (bl s) with | true => exact HY.out e | false => exact HN.out e)
        clear HY HN
        generalize hp : ((s.extract 0 5).toList == [72, 84, 84, 80, 47]) = p at *
        have hq : ((s.extract 0 5).toList == ((⟨#[72, 84, 84, 80, 47, 49, 46]⟩ : ByteArray).extract 0 5).toList) = p := by rw [XE.out, XL.out]; exact hp
        clear hp XE XL
        generalize hd5 : digitB x5 = d5 at *
        generalize hd7 : digitB x7 = d7 at *
        generalize hd6 : (x6 == 46) = d6 at *
        clear hd5 hd7 hd6
        have p6 := X6.out
        clear X6
        have HR0 : minorB s = if (p && d5 && d6 && d7) = true then (0, 6) else (0, 2) := by rw [HM.out, HV.out]
        clear HM HV
        cases p <;> cases d5 <;> cases d6 <;> cases d7
        all_goals
          simp only [Bool.and_true, Bool.and_false, Bool.false_eq_true, if_false, reduceIte] at HR0
          have HR := Lib.hid HR0
          clear HR0
          go_enter Tryd.func22, Tryd.ntmps22
          go_wp2_with fail
          go_quiet (first | (go_at_call 36; with_reducible exact Calls.quiet_of_same (C5.out _)) | (go_at_call 36; with_reducible exact Calls.quiet_of_same (C7.out _)))
          go_wp2
          first
            | (have hx6 : minorB s = (0, 6) := HR.out; clear hx6; refine bodyPost_ret (v := .tuple #[.int .i64 0, .int .i64 6]) ?_ rfl ?_; (focus (simp [results, Tryd.results22, go_sem]; done)); rw [HR.out]; exact ⟨rfl, below_drewN (Below.refl _ _) _⟩)
            | (refine bodyPost_ret (v := .tuple #[.int .i64 0, .int .i64 2]) ?_ rfl ?_; (focus (simp [results, Tryd.results22, go_sem]; done)); rw [HR.out]; exact ⟨rfl, below_drewN (Below.refl _ _) _⟩)
      · have b8 : ((s.size : Int) == 8) = false := by simp; omega
        have HR := Lib.hid (minorB_no h0 h1 (by unfold isVersion; rw [bl_length]; simp [h8]))
        clear h0 h1
        go_enter Tryd.func22, Tryd.ntmps22
        go_wp2_with fail
        go_quiet (fail)
        all_goals go_wp2
        all_goals refine bodyPost_ret (v := .tuple #[.int .i64 0, .int .i64 2]) (by simp [results, Tryd.results22, go_sem]) rfl ⟨by rw [HR.out], below_drewN (Below.refl _ _) _⟩
end Go.Proofs.YtglljdhhgmgbgaaDoor
