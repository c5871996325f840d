/- Status lines: the reference's ParseStatusLine. -/
import Derived.Test.YtglljdhhgmgbgaaGreatDoorLineS
import Derived.Test.YtglljdhhgmgbgaaGreatDoorLineV
namespace Go.Proofs.YtglljdhhgmgbgaaGreatDoor
open Go.RowKit Go.Own
set_option linter.unusedVariables false
set_option maxHeartbeats 2000000

theorem st_a {s : ByteArray} (h : s.size < 12) : parseSt s = none := parseSt_no (by unfold stLine; rw [decide_eq_false (show ¬ 12 ≤ s.size by omega)]; rfl)
theorem st_b {s : ByteArray} (h : ¬ 0 ≤ rminor (s.extract 0 8)) : parseSt s = none := parseSt_no (by
  have : ((minorB (s.extract 0 8)).2 == 0) = false := by
    rw [rminor_no h]
    cases isVersion (bl (s.extract 0 8)) <;> rfl
  unfold stLine; rw [this]; simp)
theorem st_c {s : ByteArray} (h8 : 8 < s.size) (h : (bl s)[8]'(by rw [bl_length]; exact h8) ≠ 32) : parseSt s = none := parseSt_no (by
  unfold stLine
  rw [List.getD_eq_getElem?_getD, List.getElem?_eq_getElem (by rw [bl_length]; exact h8)]
  simp [h])
theorem st_d {s : ByteArray} (h12 : 12 < s.size) (h : (bl s)[12]'(by rw [bl_length]; exact h12) ≠ 32) : parseSt s = none := parseSt_no (by
  unfold stLine
  rw [decide_eq_false (show ¬ s.size ≤ 12 by omega)]
  conv => lhs; rw [List.getD_eq_getElem?_getD (i := 12), List.getElem?_eq_getElem (show 12 < (bl s).length by rw [bl_length]; exact h12)]
  simp [h])
theorem st_e {s : ByteArray} (h : 12 ≤ s.size) (hm : 0 ≤ rminor (s.extract 0 8)) (h8 : (bl s)[8]'(by rw [bl_length]; omega) = 32) (h12 : s.size = 12 ∨ ∃ h : 12 < s.size, (bl s)[12]'(by rw [bl_length]; exact h) = 32) : stLine s = true := by
  unfold stLine
  rw [decide_eq_true h, rminor_ok hm]
  have e8 : (bl s).getD 8 0 = 32 := by rw [List.getD_eq_getElem?_getD, List.getElem?_eq_getElem (by rw [bl_length]; omega), h8]; rfl
  rw [e8]
  rcases h12 with e | ⟨e, e2⟩
  · rw [decide_eq_true (show s.size ≤ 12 by omega)]; rfl
  · have e12 : (bl s).getD 12 0 = 32 := by rw [List.getD_eq_getElem?_getD, List.getElem?_eq_getElem (by rw [bl_length]; exact e), e2]; rfl
    rw [e12]; simp
theorem st_num {s : ByteArray} (h : (parseN 10 599 (bl (s.extract 9 12))).2 ≠ 0) : parseSt s = none := by
  unfold parseSt; rw [show ((parseN 10 599 (bl (s.extract 9 12))).2 == 0) = false by simpa using h]; simp
theorem st_low {s : ByteArray} (h : (parseN 10 599 (bl (s.extract 9 12))).1 < 100) : parseSt s = none := by
  unfold parseSt; rw [decide_eq_false (show ¬ 100 ≤ (parseN 10 599 (bl (s.extract 9 12))).1 by omega)]; simp
theorem st_vis {s : ByteArray} (h : visible (bl (reasonB s)) = false) : parseSt s = none := by unfold parseSt; rw [h]; simp
theorem st_ok {s : ByteArray} (hl : stLine s = true) (hm : 0 ≤ rminor (s.extract 0 8)) (h1 : (parseN 10 599 (bl (s.extract 9 12))).2 = 0) (h2 : ¬ (parseN 10 599 (bl (s.extract 9 12))).1 < 100) (h3 : visible (bl (reasonB s)) = true) :
    parseSt s = some ((parseN 10 599 (bl (s.extract 9 12))).1, reasonB s, rminor (s.extract 0 8)) := by
  unfold parseSt
  rw [hl, h1, decide_eq_true (show 100 ≤ (parseN 10 599 (bl (s.extract 9 12))).1 by omega), h3, rminor_ok hm]
  rfl

theorem refParseSt_calls (s : ByteArray) (w : World) (hs : s.size < 4294967281) :
    Calls Tryz.prog 49 #[.string s] w fun e w' => e = .returned (.tuple #[repV (parseSt s), .int .i64 (stErr (parseSt s))]) ∧ Below w.heap.size w w' := by
  by_cases hA : s.size < 12
  · have i12 : (s.size : Int) < 12 := by omega
    have HR := Lib.hid (st_a hA)
    clear hA
    go_enter Tryz.func49, Tryz.ntmps49
    go_wp2
    refine bodyPost_ret (v := .tuple #[.agg #[.int .i64 0, .string .empty, .int .i64 0, .slice none 0 0, .slice none 0 0], .int .i64 2]) (by simp [results, Tryz.results49, go_sem] <;> rfl) rfl ⟨by rw [HR.out]; rfl, ?_⟩
    first | exact (Below.refl _ _).alloc (Nat.le_refl _) _ | exact ((Below.refl _ _).alloc (Nat.le_refl _) _).alloc (by simp) _
  · have i12 : ¬ (s.size : Int) < 12 := by omega
    have i8 : (8 : Int) ≤ (s.size : Int) := by omega
    have j8 : (8 : Int) < (s.size : Int) := by omega
    have n8 : 8 ≤ s.size := by omega
    have m8 : 8 < s.size := by omega
    have k12 : (12 : Int) ≤ (s.size : Int) := by omega
    have n12 : 12 ≤ s.size := by omega
    have z8 : (s.extract 0 8).size ≤ maxLen := by rw [ByteArray.size_extract]; simp [maxLen]; omega
    have z9 : (s.extract 9 12).size ≤ maxLen := by rw [ByteArray.size_extract]; simp [maxLen]; omega
    have HM := Lib.hid (fun w => rminor_calls (s.extract 0 8) w)
    have HP := Lib.hid (fun w => refParseDecimal_calls (s.extract 9 12) 599 w z9 (by omega) (by omega))
    have HB := Lib.hid (fun h => st_b (s := s) h)
    have HC := Lib.hid (fun h => st_c (s := s) m8 h)
    have HE := Lib.hid (fun hm h8 h12 => st_e (s := s) n12 hm h8 h12)
    have H1 := Lib.hid (fun h => st_num (s := s) h)
    have H2 := Lib.hid (fun h => st_low (s := s) h)
    have H3 := Lib.hid (fun h => st_vis (s := s) h)
    have H4 := Lib.hid (fun hl hm h1 h2 h3 => st_ok (s := s) hl hm h1 h2 h3)
    obtain ⟨m, hm⟩ : ∃ m, rminor (s.extract 0 8) = m := ⟨_, rfl⟩
    obtain ⟨⟨x, q⟩, hxq⟩ : ∃ p, parseN 10 599 (bl (s.extract 9 12)) = p := ⟨_, rfl⟩
    rw [hm] at HM HB HE H4
    rw [hxq] at HP H1 H2 H4
    simp only at HP H1 H2 H4
    clear hm hxq z8 z9 hA
    obtain ⟨y8, hy8, hs8⟩ := byte_split s 8 m8
    by_cases hm : 0 ≤ m
    · have nm : ¬ m < 0 := by omega
      by_cases h32 : y8 = 32
      · subst h32
        by_cases h12 : s.size = 12
        · have j12 : ¬ (12 : Int) < (s.size : Int) := by omega
          have hu : reasonB s = .empty := by unfold reasonB; rw [if_neg (by omega)]
          have hst := HE.out hm hy8 (Or.inl h12)
          clear h12 hy8
          by_cases hq : q = 0
          · subst hq
            by_cases hx : x < 100
            · have HR := Lib.hid (H2.out hx)
              clear H1 H2 H3 H4 HE
              go_enter Tryz.func49, Tryz.ntmps49
              go_wp2_with fail
              refine (HM.out _).mono ?_
              rintro e w2 ⟨rfl, rfl⟩
              go_wp2_with fail
              refine (HP.out _).mono ?_
              rintro e w2 ⟨rfl, rfl⟩
              go_wp2
              refine bodyPost_ret (v := .tuple #[.agg #[.int .i64 0, .string .empty, .int .i64 0, .slice none 0 0, .slice none 0 0], .int .i64 2]) (by simp [results, Tryz.results49, go_sem] <;> rfl) rfl ⟨by rw [HR.out]; rfl, ?_⟩
              first | exact (Below.refl _ _).alloc (Nat.le_refl _) _ | exact ((Below.refl _ _).alloc (Nat.le_refl _) _).alloc (by simp) _
            · cases hvis : visible (bl .empty) with
              | true =>
                have HR := Lib.hid (H4.out hst hm rfl hx (by rw [hu]; exact hvis))
                rw [hu] at HR
                have HT := Lib.hid (fun w => refVisible_calls .empty w (by decide))
                unfold visible at hvis
                rw [hvis] at HT
                clear H1 H2 H3 H4 HE hvis hu hst
                go_enter Tryz.func49, Tryz.ntmps49
                go_wp2_with fail
                refine (HM.out _).mono ?_
                rintro e w2 ⟨rfl, rfl⟩
                go_wp2_with fail
                refine (HP.out _).mono ?_
                rintro e w2 ⟨rfl, rfl⟩
                go_wp2_with fail
                refine (HM.out _).mono ?_
                rintro e w2 ⟨rfl, rfl⟩
                go_wp2_with fail
                refine (HT.out _).mono ?_
                rintro e w2 ⟨rfl, rfl⟩
                go_wp2
                refine bodyPost_ret (v := .tuple #[.agg #[.int .i64 x, .string .empty, .int .i64 m, .slice none 0 0, .slice none 0 0], .int .i64 0]) (by simp [results, Tryz.results49, go_sem] <;> rfl) rfl ⟨by rw [HR.out]; rfl, ?_⟩
                first | exact (Below.refl _ _).alloc (Nat.le_refl _) _ | exact ((Below.refl _ _).alloc (Nat.le_refl _) _).alloc (by simp) _
              | false =>
                have HR := Lib.hid (H3.out (by rw [hu]; exact hvis))
                have HT := Lib.hid (fun w => refVisible_calls .empty w (by decide))
                unfold visible at hvis
                rw [hvis] at HT
                clear H1 H2 H3 H4 HE hvis hu hst
                go_enter Tryz.func49, Tryz.ntmps49
                go_wp2_with fail
                refine (HM.out _).mono ?_
                rintro e w2 ⟨rfl, rfl⟩
                go_wp2_with fail
                refine (HP.out _).mono ?_
                rintro e w2 ⟨rfl, rfl⟩
                go_wp2_with fail
                refine (HM.out _).mono ?_
                rintro e w2 ⟨rfl, rfl⟩
                go_wp2_with fail
                refine (HT.out _).mono ?_
                rintro e w2 ⟨rfl, rfl⟩
                go_wp2
                refine bodyPost_ret (v := .tuple #[.agg #[.int .i64 0, .string .empty, .int .i64 0, .slice none 0 0, .slice none 0 0], .int .i64 2]) (by simp [results, Tryz.results49, go_sem] <;> rfl) rfl ⟨by rw [HR.out]; rfl, ?_⟩
                first | exact (Below.refl _ _).alloc (Nat.le_refl _) _ | exact ((Below.refl _ _).alloc (Nat.le_refl _) _).alloc (by simp) _
          · have HR := Lib.hid (H1.out hq)
            have q2 : (q == 0) = false := by simpa using hq
            have q3 : (q != 0) = true := by simpa using hq
            clear H1 H2 H3 H4 HE
            go_enter Tryz.func49, Tryz.ntmps49
            go_wp2_with fail
            refine (HM.out _).mono ?_
            rintro e w2 ⟨rfl, rfl⟩
            go_wp2_with fail
            refine (HP.out _).mono ?_
            rintro e w2 ⟨rfl, rfl⟩
            go_wp2
            refine bodyPost_ret (v := .tuple #[.agg #[.int .i64 0, .string .empty, .int .i64 0, .slice none 0 0, .slice none 0 0], .int .i64 2]) (by simp [results, Tryz.results49, go_sem] <;> rfl) rfl ⟨by rw [HR.out]; rfl, ?_⟩
            first | exact (Below.refl _ _).alloc (Nat.le_refl _) _ | exact ((Below.refl _ _).alloc (Nat.le_refl _) _).alloc (by simp) _
        · have j12 : (12 : Int) < (s.size : Int) := by omega
          have m12 : 12 < s.size := by omega
          have k13 : (13 : Int) ≤ (s.size : Int) := by omega
          have n13 : 13 ≤ s.size := by omega
          obtain ⟨y12, hy12, hs12⟩ := byte_split s 12 m12
          by_cases g32 : y12 = 32
          · subst g32
            have hu : reasonB s = s.extract 13 s.size := by unfold reasonB; rw [if_pos m12]
            have zu : (s.extract 13 s.size).size ≤ maxLen := by rw [ByteArray.size_extract]; simp [maxLen]; omega
            have hst := HE.out hm hy8 (Or.inr ⟨m12, hy12⟩)
            clear h12 hy8 hy12
            by_cases hq : q = 0
            · subst hq
              by_cases hx : x < 100
              · have HR := Lib.hid (H2.out hx)
                clear H1 H2 H3 H4 HE
                go_enter Tryz.func49, Tryz.ntmps49
                go_wp2_with fail
                refine (HM.out _).mono ?_
                rintro e w2 ⟨rfl, rfl⟩
                go_wp2_with fail
                refine (HP.out _).mono ?_
                rintro e w2 ⟨rfl, rfl⟩
                go_wp2
                refine bodyPost_ret (v := .tuple #[.agg #[.int .i64 0, .string .empty, .int .i64 0, .slice none 0 0, .slice none 0 0], .int .i64 2]) (by simp [results, Tryz.results49, go_sem] <;> rfl) rfl ⟨by rw [HR.out]; rfl, ?_⟩
                first | exact (Below.refl _ _).alloc (Nat.le_refl _) _ | exact ((Below.refl _ _).alloc (Nat.le_refl _) _).alloc (by simp) _
              · cases hvis : visible (bl (s.extract 13 s.size)) with
                | true =>
                  have HR := Lib.hid (H4.out hst hm rfl hx (by rw [hu]; exact hvis))
                  rw [hu] at HR
                  have HT := Lib.hid (fun w => refVisible_calls (s.extract 13 s.size) w zu)
                  unfold visible at hvis
                  rw [hvis] at HT
                  clear H1 H2 H3 H4 HE hvis hu hst
                  go_enter Tryz.func49, Tryz.ntmps49
                  go_wp2_with fail
                  refine (HM.out _).mono ?_
                  rintro e w2 ⟨rfl, rfl⟩
                  go_wp2_with fail
                  refine (HP.out _).mono ?_
                  rintro e w2 ⟨rfl, rfl⟩
                  go_wp2_with fail
                  refine (HM.out _).mono ?_
                  rintro e w2 ⟨rfl, rfl⟩
                  go_wp2_with fail
                  refine (HT.out _).mono ?_
                  rintro e w2 ⟨rfl, rfl⟩
                  go_wp2
                  refine bodyPost_ret (v := .tuple #[.agg #[.int .i64 x, .string (s.extract 13 s.size), .int .i64 m, .slice none 0 0, .slice none 0 0], .int .i64 0]) (by simp [results, Tryz.results49, go_sem] <;> rfl) rfl ⟨by rw [HR.out]; rfl, ?_⟩
                  first | exact (Below.refl _ _).alloc (Nat.le_refl _) _ | exact ((Below.refl _ _).alloc (Nat.le_refl _) _).alloc (by simp) _
                | false =>
                  have HR := Lib.hid (H3.out (by rw [hu]; exact hvis))
                  have HT := Lib.hid (fun w => refVisible_calls (s.extract 13 s.size) w zu)
                  unfold visible at hvis
                  rw [hvis] at HT
                  clear H1 H2 H3 H4 HE hvis hu hst
                  go_enter Tryz.func49, Tryz.ntmps49
                  go_wp2_with fail
                  refine (HM.out _).mono ?_
                  rintro e w2 ⟨rfl, rfl⟩
                  go_wp2_with fail
                  refine (HP.out _).mono ?_
                  rintro e w2 ⟨rfl, rfl⟩
                  go_wp2_with fail
                  refine (HM.out _).mono ?_
                  rintro e w2 ⟨rfl, rfl⟩
                  go_wp2_with fail
                  refine (HT.out _).mono ?_
                  rintro e w2 ⟨rfl, rfl⟩
                  go_wp2
                  refine bodyPost_ret (v := .tuple #[.agg #[.int .i64 0, .string .empty, .int .i64 0, .slice none 0 0, .slice none 0 0], .int .i64 2]) (by simp [results, Tryz.results49, go_sem] <;> rfl) rfl ⟨by rw [HR.out]; rfl, ?_⟩
                  first | exact (Below.refl _ _).alloc (Nat.le_refl _) _ | exact ((Below.refl _ _).alloc (Nat.le_refl _) _).alloc (by simp) _
            · have HR := Lib.hid (H1.out hq)
              have q2 : (q == 0) = false := by simpa using hq
              have q3 : (q != 0) = true := by simpa using hq
              clear H1 H2 H3 H4 HE
              go_enter Tryz.func49, Tryz.ntmps49
              go_wp2_with fail
              refine (HM.out _).mono ?_
              rintro e w2 ⟨rfl, rfl⟩
              go_wp2_with fail
              refine (HP.out _).mono ?_
              rintro e w2 ⟨rfl, rfl⟩
              go_wp2
              refine bodyPost_ret (v := .tuple #[.agg #[.int .i64 0, .string .empty, .int .i64 0, .slice none 0 0, .slice none 0 0], .int .i64 2]) (by simp [results, Tryz.results49, go_sem] <;> rfl) rfl ⟨by rw [HR.out]; rfl, ?_⟩
              first | exact (Below.refl _ _).alloc (Nat.le_refl _) _ | exact ((Below.refl _ _).alloc (Nat.le_refl _) _).alloc (by simp) _
          · have HR := Lib.hid (st_d m12 (by rw [hy12]; exact g32))
            have b5 : ((y12.toNat : Int) == 32) = false := by
              rw [beq_eq_false_iff_ne]; intro e; apply g32; exact UInt8.toNat_inj.1 (by have : (32 : UInt8).toNat = 32 := rfl; omega)
            have b6 : ((y12.toNat : Int) != 32) = true := by rw [bne, b5]; rfl
            clear H1 H2 H3 H4 HE HC HB hy8 hy12 HP
            go_enter Tryz.func49, Tryz.ntmps49
            go_wp2_with fail
            refine (HM.out _).mono ?_
            rintro e w2 ⟨rfl, rfl⟩
            go_wp2
            refine bodyPost_ret (v := .tuple #[.agg #[.int .i64 0, .string .empty, .int .i64 0, .slice none 0 0, .slice none 0 0], .int .i64 2]) (by simp [results, Tryz.results49, go_sem] <;> rfl) rfl ⟨by rw [HR.out]; rfl, ?_⟩
            first | exact (Below.refl _ _).alloc (Nat.le_refl _) _ | exact ((Below.refl _ _).alloc (Nat.le_refl _) _).alloc (by simp) _
      · have HR := Lib.hid (HC.out (by rw [hy8]; exact h32))
        have b5 : ((y8.toNat : Int) == 32) = false := by
          rw [beq_eq_false_iff_ne]; intro e; apply h32; exact UInt8.toNat_inj.1 (by have : (32 : UInt8).toNat = 32 := rfl; omega)
        have b6 : ((y8.toNat : Int) != 32) = true := by rw [bne, b5]; rfl
        clear H1 H2 H3 H4 HE HC HB hy8 HP
        go_enter Tryz.func49, Tryz.ntmps49
        go_wp2_with fail
        refine (HM.out _).mono ?_
        rintro e w2 ⟨rfl, rfl⟩
        go_wp2
        refine bodyPost_ret (v := .tuple #[.agg #[.int .i64 0, .string .empty, .int .i64 0, .slice none 0 0, .slice none 0 0], .int .i64 2]) (by simp [results, Tryz.results49, go_sem] <;> rfl) rfl ⟨by rw [HR.out]; rfl, ?_⟩
        first | exact (Below.refl _ _).alloc (Nat.le_refl _) _ | exact ((Below.refl _ _).alloc (Nat.le_refl _) _).alloc (by simp) _
    · have HR := Lib.hid (HB.out hm)
      have nm : m < 0 := by omega
      clear H1 H2 H3 H4 HE HC HB hy8 HP
      go_enter Tryz.func49, Tryz.ntmps49
      go_wp2_with fail
      refine (HM.out _).mono ?_
      rintro e w2 ⟨rfl, rfl⟩
      go_wp2
      refine bodyPost_ret (v := .tuple #[.agg #[.int .i64 0, .string .empty, .int .i64 0, .slice none 0 0, .slice none 0 0], .int .i64 2]) (by simp [results, Tryz.results49, go_sem] <;> rfl) rfl ⟨by rw [HR.out]; rfl, ?_⟩
      first | exact (Below.refl _ _).alloc (Nat.le_refl _) _ | exact ((Below.refl _ _).alloc (Nat.le_refl _) _).alloc (by simp) _
end Go.Proofs.YtglljdhhgmgbgaaGreatDoor
