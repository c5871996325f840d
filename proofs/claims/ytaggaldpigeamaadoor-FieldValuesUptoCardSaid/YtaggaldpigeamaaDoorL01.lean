/- The laws of the ascii layer: AsciiLower, AsciiToken, AsciiBytes, AsciiTrim, AsciiList: their walks. -/
import Derived.Test.YtaggaldpigeamaaDoorList
import Derived.Deep.QuietTactic
import Derived.BigQuiet
import Derived.WalkSmall
namespace Go.Proofs.YtaggaldpigeamaaDoor
open Go.RowKit Go.Own
set_option linter.unusedVariables false

theorem one_le_max : 1 ≤ maxLen := by simp [maxLen]
theorem small_max {n : Nat} (h : n ≤ 9223372036854775807) : n ≤ maxLen := by simpa [maxLen] using h

set_option maxHeartbeats 1000000 in
/-- two lists that are equal -/
theorem same_calls (va vb : Value) (l : List ByteArray) (w : World) (Ha : RdS w va l) (Hb : RdS w vb l) :
    Calls Tryd.prog 21 #[va, vb] w fun e w' => e = .returned (.bool true) ∧ Below w.heap.size w w' := by
  obtain ⟨a, cap, rfl, hlc, hcm, -, hc⟩ := Ha
  obtain ⟨a2, cap2, rfl, hlc2, hcm2, -, hc2⟩ := Hb
  unfold maxLen at hcm hcm2
  go_enter Tryd.func21, Tryd.ntmps21
  go_wp2
  go_loopw [5] (fun i wr => ∃ k : Nat, k ≤ l.length ∧ i = .int .i64 k ∧ Below w.heap.size w wr) (fun i _ => l.length - (intOf i).toNat)
  case atStart => exact ⟨0, Nat.zero_le _, rfl, Below.refl _ _⟩
  case round =>
    obtain ⟨k, hk, rfl, hb⟩ := hrel
    by_cases hlt : k < l.length
    · obtain ⟨b, off, rfl, hcell⟩ := (hc.below hb).str k hlt
      obtain ⟨b2, off2, rfl, hcell2⟩ := (hc2.below hb).str k hlt
      have hki : (k : Int) < (l.length : Int) := by omega
      clear hc hc2
      go_wp2
      go_quiet (fail)
      go_wp2
      go_roundw
      case rel => exact ⟨k + 1, by omega, by go_num, below_drewN hb _⟩
      case measure => simp [intOf]; omega
    · clear hc hc2
      go_wp2
      go_ret
      exact ⟨rfl, hb⟩

theorem aw1 : foldB (⟨#[72, 111, 115, 116]⟩ : ByteArray) (⟨#[104, 79, 83, 84]⟩ : ByteArray) = true := (seq_iff _ _).2 (by decide +kernel)
theorem aw2 : token (bl (⟨#[88, 45, 65]⟩ : ByteArray)) = true := by decide +kernel
theorem aw3 : token (bl (⟨#[97, 32, 98]⟩ : ByteArray)) = false := by decide +kernel
theorem aw4 : trimB (⟨#[32, 9, 97, 32]⟩ : ByteArray) = (⟨#[97]⟩ : ByteArray) := by decide +kernel
theorem aw5 : value (bl (⟨#[97, 32, 98]⟩ : ByteArray)) = true := by decide +kernel
theorem aw6 : value (bl (⟨#[32, 97]⟩ : ByteArray)) = false := by decide +kernel
theorem aw7 : elemsS [(⟨#[97, 44, 32, 98, 44, 44, 32, 99]⟩ : ByteArray), (⟨#[100]⟩ : ByteArray)] = [(⟨#[97]⟩ : ByteArray), (⟨#[98]⟩ : ByteArray), (⟨#[99]⟩ : ByteArray), (⟨#[100]⟩ : ByteArray)] := by decide +kernel

set_option maxHeartbeats 1000000 in
theorem awake01_calls (w : World) (hE : Env w) : Calls Tryd.prog 13 #[] w fun e w' => e = .returned (.bool true) ∧ Below w.heap.size w w' := by
  have hz : ∀ s ∈ [(⟨#[97, 44, 32, 98, 44, 44, 32, 99]⟩ : ByteArray), (⟨#[100]⟩ : ByteArray)], s.size < 4294967281 := by decide
  go_enter Tryd.func13, Tryd.ntmps13
  go_wp2_with fail
  refine (fold_calls _ _ _ (by decide) (by decide)).mono ?_
  rintro e w1 ⟨rfl, hb1⟩
  rw [aw1]
  go_wp2_with fail
  refine (token_calls _ _ (by decide)).mono ?_
  rintro e w2 ⟨rfl, rfl⟩
  rw [aw2]
  go_wp2_with fail
  refine (token_calls _ _ (by decide)).mono ?_
  rintro e w2 ⟨rfl, rfl⟩
  rw [aw3]
  go_wp2_with fail
  refine (trim_calls _ _ (by decide)).mono ?_
  rintro e w2 ⟨rfl, rfl⟩
  rw [aw4]
  go_wp2_with fail
  refine (value_calls _ _ (by decide)).mono ?_
  rintro e w2 ⟨rfl, rfl⟩
  rw [aw5]
  go_wp2_with fail
  refine (value_calls _ _ (by decide)).mono ?_
  rintro e w2 ⟨rfl, rfl⟩
  rw [aw6]
  have hE1 := hE.below hb1
  go_wp2_with fail
  refine (list_calls _ [(⟨#[97, 44, 32, 98, 44, 44, 32, 99]⟩ : ByteArray), (⟨#[100]⟩ : ByteArray)] _ (hE1.below ((Below.refl _ _).alloc (Nat.le_refl _) _)) ⟨_, _, rfl, Nat.le_refl _, by simp [maxLen], by simp, RdC_new w1 [.string (⟨#[97, 44, 32, 98, 44, 44, 32, 99]⟩ : ByteArray), .string (⟨#[100]⟩ : ByteArray)] 9 (0, 0)⟩ hz (by rw [aw7]; decide)).mono ?_
  rintro e w2 ⟨⟨v, rfl, hv⟩, hb2⟩
  have hb2' := hb1.trans ((((Below.refl w1.heap.size w1).alloc (Nat.le_refl _) _).trans (hb2.mono (by simp))).mono hb1.size)
  have hv2 := hv.rd
  rw [aw7] at hv2
  clear hb2 hv
  go_wp2_with fail
  refine (same_calls _ _ [(⟨#[97]⟩ : ByteArray), (⟨#[98]⟩ : ByteArray), (⟨#[99]⟩ : ByteArray), (⟨#[100]⟩ : ByteArray)] _ (hv2.below ((Below.refl _ _).alloc (Nat.le_refl _) _)) ⟨_, _, rfl, Nat.le_refl _, by simp [maxLen], by simp, RdC_new w2 [.string (⟨#[97]⟩ : ByteArray), .string (⟨#[98]⟩ : ByteArray), .string (⟨#[99]⟩ : ByteArray), .string (⟨#[100]⟩ : ByteArray)] 9 (0, 0)⟩).mono ?_
  rintro e w3 ⟨rfl, hb3⟩
  have hb3' := hb2'.trans ((((Below.refl w2.heap.size w2).alloc (Nat.le_refl _) _).trans (hb3.mono (by simp))).mono hb2'.size)
  go_wp2
  go_ret
  exact ⟨rfl, hb3'⟩

theorem fold_low (a : ByteArray) : foldB a (lowerB a) = true := (seq_iff _ _).2 (lowerB_lowerB a).symm
set_option maxHeartbeats 1000000 in
theorem asciiLower_core (a b : ByteArray) (w : World) (hE : Env w) (ha : a.size ≤ maxLen) (hb0 : b.size ≤ maxLen) :
    Calls Tryd.prog 3 #[.string a, .string b] w fun e w' => e = .returned (.bool true) ∧ Below w.heap.size w w' := by
  have hl := lowerB_size a
  have HS := Lib.hid (show (lowerB a).size ≤ maxLen by rw [hl]; exact ha)
  go_enter Tryd.func3, Tryd.ntmps3
  go_wp2_with fail
  refine (lower_calls a _ ha).mono ?_
  rintro e w1 ⟨rfl, hb1⟩
  have HB1 := hb1
  clear hb1
  go_wp2_with fail
  refine (refLower_calls a _ ha).mono ?_
  rintro e w2 ⟨rfl, hb2⟩
  have HB2 := Below.self_trans HB1 hb2
  clear hb2
  go_wp2_with fail
  refine (lower_calls (lowerB a) _ HS.out).mono ?_
  rintro e w3 ⟨rfl, hb3⟩
  have HB3 := Below.self_trans HB2 hb3
  clear hb3
  rw [lowerB_lowerB]
  go_wp2_with fail
  refine (fold_calls a b _ ha hb0).mono ?_
  rintro e w4 ⟨rfl, hb4⟩
  have HB4 := Below.self_trans HB3 hb4
  clear hb4
  go_wp2_with fail
  refine (refFold_calls a b _ ha hb0).mono ?_
  rintro e w5 ⟨rfl, hb5⟩
  have HB5 := Below.self_trans HB4 hb5
  clear hb5
  go_wp2_with fail
  refine (fold_calls a (lowerB a) _ ha HS.out).mono ?_
  rintro e w6 ⟨rfl, hb6⟩
  have HB6 := Below.self_trans HB5 hb6
  clear hb6
  rw [fold_low]
  go_wp2_with fail
  refine (awake01_calls _ (hE.below HB6)).mono ?_
  rintro e w7 ⟨rfl, hb7⟩
  have HB7 := Below.self_trans HB6 hb7
  clear hb7
  go_wp2
  go_ret
  exact ⟨rfl, HB7⟩

set_option maxHeartbeats 1000000 in
theorem asciiToken_core (s : ByteArray) (v : Value) (t : List UInt8) (w : World) (hE : Env w) (hs : s.size ≤ maxLen) (Ht : RdB w v t) (ht : (⟨t.toArray⟩ : ByteArray).size ≤ maxLen) :
    Calls Tryd.prog 4 #[.string s, v] w fun e w' => e = .returned (.bool true) ∧ Below w.heap.size w w' := by
  obtain ⟨a1, c1, rfl, h11, h12, h13, hr1⟩ := Ht
  go_enter Tryd.func4, Tryd.ntmps4
  go_wp2_with (refine wpList_bytesstr rfl 25 9 _ rfl _ _ _ rfl 5 Tryd.underlying25 Tryd.underlying5 Tryd.underlying9 t rfl hr1 ?_)
  go_wp2_with fail
  refine (token_calls s _ hs).mono ?_
  rintro e wq1 ⟨rfl, rfl⟩
  go_wp2_with fail
  refine (refToken_calls s _ hs).mono ?_
  rintro e wq2 ⟨rfl, rfl⟩
  go_wp2_with fail
  refine (token_calls ⟨t.toArray⟩ _ ht).mono ?_
  rintro e wq3 ⟨rfl, rfl⟩
  go_wp2_with fail
  refine (refToken_calls ⟨t.toArray⟩ _ ht).mono ?_
  rintro e wq4 ⟨rfl, rfl⟩
  go_wp2_with fail
  refine (value_calls s _ hs).mono ?_
  rintro e wq5 ⟨rfl, rfl⟩
  go_wp2_with fail
  refine (refValue_calls s _ hs).mono ?_
  rintro e wq6 ⟨rfl, rfl⟩
  go_wp2_with fail
  refine (value_calls ⟨t.toArray⟩ _ ht).mono ?_
  rintro e wq7 ⟨rfl, rfl⟩
  go_wp2_with fail
  refine (refValue_calls ⟨t.toArray⟩ _ ht).mono ?_
  rintro e wq8 ⟨rfl, rfl⟩
  go_wp2_with fail
  refine (awake01_calls _ hE).mono ?_
  rintro e w9 ⟨rfl, hb9⟩
  have HB9 := hb9
  clear hb9
  go_wp2
  go_ret
  exact ⟨rfl, HB9⟩

set_option maxHeartbeats 1000000 in
theorem asciiBytes_core (c : UInt8) (w : World) (hE : Env w) :
    Calls Tryd.prog 5 #[.int .u8 (c.toNat : Int)] w fun e w' => e = .returned (.bool true) ∧ Below w.heap.size w w' := by
  go_enter Tryd.func5, Tryd.ntmps5
  go_wp2_with (refine wpList_bytesstr rfl 25 9 _ rfl _ _ _ rfl 5 Tryd.underlying25 Tryd.underlying5 Tryd.underlying9 [c] rfl (RdC_new' _ [.int .u8 (c.toNat : Int)] _ _ _ (by simp)) ?_)
  go_wp2_with fail
  refine (token_calls _ _ (small_max (by first | (simp [ByteArray.size]; done) | (simp [ByteArray.size]; omega) | (simp; omega)))).mono ?_
  rintro e wq1 ⟨rfl, rfl⟩
  go_wp2_with fail
  refine (refToken_calls _ _ (small_max (by first | (simp [ByteArray.size]; done) | (simp [ByteArray.size]; omega) | (simp; omega)))).mono ?_
  rintro e wq2 ⟨rfl, rfl⟩
  go_wp2_with fail
  refine (value_calls _ _ (small_max (by first | (simp [ByteArray.size]; done) | (simp [ByteArray.size]; omega) | (simp; omega)))).mono ?_
  rintro e wq3 ⟨rfl, rfl⟩
  go_wp2_with fail
  refine (refValue_calls _ _ (small_max (by first | (simp [ByteArray.size]; done) | (simp [ByteArray.size]; omega) | (simp; omega)))).mono ?_
  rintro e wq4 ⟨rfl, rfl⟩
  go_wp2_with fail
  refine (token_calls _ _ (small_max (by first | (simp [ByteArray.size]; done) | (simp [ByteArray.size]; omega) | (simp; omega)))).mono ?_
  rintro e wq5 ⟨rfl, rfl⟩
  go_wp2_with fail
  refine (refToken_calls _ _ (small_max (by first | (simp [ByteArray.size]; done) | (simp [ByteArray.size]; omega) | (simp; omega)))).mono ?_
  rintro e wq6 ⟨rfl, rfl⟩
  go_wp2_with fail
  refine (value_calls _ _ (small_max (by first | (simp [ByteArray.size]; done) | (simp [ByteArray.size]; omega) | (simp; omega)))).mono ?_
  rintro e wq7 ⟨rfl, rfl⟩
  go_wp2_with fail
  refine (refValue_calls _ _ (small_max (by first | (simp [ByteArray.size]; done) | (simp [ByteArray.size]; omega) | (simp; omega)))).mono ?_
  rintro e wq8 ⟨rfl, rfl⟩
  go_wp2_with fail
  refine (lower_calls _ _ (small_max (by first | (simp [ByteArray.size]; done) | (simp [ByteArray.size]; omega) | (simp; omega)))).mono ?_
  rintro e w1 ⟨rfl, hb1⟩
  have HB := ((Below.refl w.heap.size w).alloc (Nat.le_refl _) _).trans (hb1.mono (by simp))
  clear hb1
  go_wp2_with fail
  refine (refLower_calls _ _ (small_max (by first | (simp [ByteArray.size]; done) | (simp [ByteArray.size]; omega) | (simp; omega)))).mono ?_
  rintro e w9 ⟨rfl, hb9⟩
  have HB9 := Below.self_trans HB hb9
  clear hb9
  go_wp2_with fail
  refine (awake01_calls _ (hE.below HB9)).mono ?_
  rintro e w10 ⟨rfl, hb10⟩
  have HB10 := Below.self_trans HB9 hb10
  clear hb10
  go_wp2
  go_ret
  exact ⟨rfl, HB10⟩

theorem trim_around (s : ByteArray) : trimB ((⟨#[32]⟩ : ByteArray) ++ s ++ (⟨#[9]⟩ : ByteArray)) = trimB s := by
  have e : bl ((⟨#[32]⟩ : ByteArray) ++ s ++ (⟨#[9]⟩ : ByteArray)) = 32 :: (bl s ++ [9]) := by rw [bl_append, bl_append]; rfl
  unfold trimB
  rw [e, trim_cons _ _ (by decide), trim_snoc _ _ (by decide)]
set_option maxHeartbeats 1000000 in
theorem asciiTrim_core (s : ByteArray) (p q : UInt8) (w : World) (hE : Env w) (hs : s.size ≤ 1048576) :
    Calls Tryd.prog 6 #[.string s, .int .u8 (p.toNat : Int), .int .u8 (q.toNat : Int)] w fun e w' => e = .returned (.bool true) ∧ Below w.heap.size w w' := by
  go_enter Tryd.func6, Tryd.ntmps6
  go_wp2_with fail
  refine (trim_calls s _ (small_max (by omega))).mono ?_
  rintro e wq1 ⟨rfl, rfl⟩
  go_wp2_with (first | (refine wpList_bytesstr rfl 25 9 _ rfl _ _ _ rfl 5 Tryd.underlying25 Tryd.underlying5 Tryd.underlying9 [p] rfl (RdC_new' _ [.int .u8 (p.toNat : Int)] _ _ _ (by simp)) ?_) | (refine wpList_bytesstr rfl 25 9 _ rfl _ _ _ rfl 5 Tryd.underlying25 Tryd.underlying5 Tryd.underlying9 [q] rfl (RdC_new' _ [.int .u8 (q.toNat : Int)] _ _ _ (by simp)) ?_))
  refine (trim_calls _ _ (small_max (by simp only [ByteArray.size_append', size1]; omega))).mono ?_
  rintro e wq2 ⟨rfl, rfl⟩
  go_wp2_with fail
  refine (refTrim_calls s _ (small_max (by omega))).mono ?_
  rintro e wq3 ⟨rfl, rfl⟩
  go_wp2_with fail
  refine (trim_calls _ _ (Nat.le_trans (trimB_size s) (small_max (by omega)))).mono ?_
  rintro e wq4 ⟨rfl, rfl⟩
  rw [trimB_trimB]
  go_wp2_with fail
  refine (trim_calls _ _ (small_max (by simp only [ByteArray.size_append', size1]; omega))).mono ?_
  rintro e wq5 ⟨rfl, rfl⟩
  rw [trim_around]
  go_wp2_with (first | (refine wpList_bytesstr rfl 25 9 _ rfl _ _ _ rfl 5 Tryd.underlying25 Tryd.underlying5 Tryd.underlying9 [p] rfl (RdC_new' _ [.int .u8 (p.toNat : Int)] _ _ _ (by simp)) ?_) | (refine wpList_bytesstr rfl 25 9 _ rfl _ _ _ rfl 5 Tryd.underlying25 Tryd.underlying5 Tryd.underlying9 [q] rfl (RdC_new' _ [.int .u8 (q.toNat : Int)] _ _ _ (by simp)) ?_))
  refine (refTrim_calls _ _ (small_max (by simp only [ByteArray.size_append', size1]; omega))).mono ?_
  rintro e w2 ⟨rfl, rfl⟩
  go_wp2_with fail
  refine (awake01_calls _ (hE.below (((((Below.refl _ _).alloc (Nat.le_refl _) _).alloc (by simp) _).alloc (by simp; omega) _).alloc (by simp; omega) _))).mono ?_
  rintro e w1 ⟨rfl, hb1⟩
  go_wp2
  go_ret
  exact ⟨rfl, ((((((Below.refl w.heap.size w).alloc (Nat.le_refl _) _).alloc (by simp) _).alloc (by simp; omega) _).alloc (by simp; omega) _)).trans (hb1.mono (by simp; omega))⟩

theorem trim_id (x : ByteArray) (w : World) (h : trimB x = x) (hs : x.size ≤ maxLen) : Calls Tryd.prog 18 #[.string x] w fun e w' => e = .returned (.string x) ∧ w' = w :=
  (trim_calls x w hs).mono fun e w' ⟨he, hw⟩ => ⟨by rw [he, h], hw.symm⟩

set_option maxHeartbeats 2000000 in
theorem asciiList_core (a b : ByteArray) (w : World) (hE : Env w) (ha : a.size ≤ 9223372036854775807) (hb0 : b.size ≤ 9223372036854775807) (hab : a.size + b.size ≤ 9223372036854775807) :
    Calls Tryd.prog 7 #[.string a, .string b] w fun e w' => e = .returned (.bool true) ∧ Below w.heap.size w w' := by
  by_cases hbig : 4000 < a.size + b.size
  · have h1 : (4000 : Int) < (a.size : Int) + (b.size : Int) := by omega
    go_enter Tryd.func7, Tryd.ntmps7
    go_wp2_with fail
    refine (awake01_calls _ hE).mono ?_
    rintro e w1 ⟨rfl, hb1⟩
    go_wp2
    go_ret
    exact ⟨rfl, hb1⟩
  · have h1 : (a.size : Int) + (b.size : Int) ≤ 4000 := by omega
    have hz : ∀ s ∈ [a, b], s.size < 4294967281 := by
      intro s hs
      simp only [List.mem_cons, List.not_mem_nil, or_false] at hs
      rcases hs with rfl | rfl <;> omega
    have hN : (elemsS [a, b]).length ≤ 4294967296 := Nat.le_trans (elemsS_length _) (by simp; omega)
    have hz2 : ∀ s ∈ [a ++ (⟨#[44]⟩ : ByteArray) ++ b], s.size < 4294967281 := by
      intro s hs
      simp only [List.mem_cons, List.not_mem_nil, or_false] at hs
      subst hs
      simp only [ByteArray.size_append', size1]
      omega
    have hN2 : (elemsS [a ++ (⟨#[44]⟩ : ByteArray) ++ b]).length ≤ 4294967296 := by rw [elemsS_join]; exact hN
    have hz3 : ∀ s ∈ elemsS [a, b], s.size < 4294967281 := by
      intro s hs
      obtain ⟨t, ht, hst⟩ := mem_elemsS_size hs
      have := hz t ht
      omega
    have L1 := fun w1 => list_calls (.slice (some ⟨World.heap w1 |>.size, 0, none⟩) 2 2) [a, b] (w1.alloc (.cells #[.string a, .string b] 9))
    have HM := Lib.hid (fun p (hp : p ∈ elemsS [a, b]) => mem_elemsS hp)
    have HN3 := Lib.hid (show (elemsS (elemsS [a, b])).length ≤ 4294967296 by rw [elemsS_elemsS]; exact hN)
    have HEE := Lib.hid (elemsS_elemsS [a, b])
    have HJ := Lib.hid (elemsS_join a b)
    clear hbig
    go_enter Tryd.func7, Tryd.ntmps7
    go_wp2_with fail
    refine (list_calls _ [a, b] _ (hE.below ((Below.refl _ _).alloc (Nat.le_refl _) _)) ⟨_, _, rfl, Nat.le_refl _, by simp [maxLen], by simp, RdC_new w [.string a, .string b] 9 (0, 0)⟩ hz hN).mono ?_
    rintro e w1 ⟨⟨v1, rfl, hv1⟩, hb1⟩
    have HB1 := ((Below.refl w.heap.size w).alloc (Nat.le_refl _) _).trans (hb1.mono (by simp))
    have R1 := hv1.rd
    obtain ⟨a1, c1, rfl, -⟩ := owned_slice hv1
    clear hv1 hb1
    generalize hm : elemsS [a, b] = m at *
    have HMm := Lib.hid hm
    clear hm L1
    go_wp2_with fail
    refine (refList_calls _ [a, b] _ ⟨_, _, rfl, Nat.le_refl _, by simp [maxLen], by simp, RdC_new w1 [.string a, .string b] 9 (0, 0)⟩ hz (by rw [HMm.out]; exact hN)).mono ?_
    rintro e w2 ⟨⟨v2, rfl, hv2⟩, hb2⟩
    have hb2' := ((Below.refl w1.heap.size w1).alloc (Nat.le_refl _) _).trans (hb2.mono (by simp))
    have HB2 := Below.self_trans HB1 hb2'
    have R2 := hv2.rd
    rw [HMm.out] at R2
    have R1' := R1.below hb2'
    clear hv2 hb2 hb2' R1
    go_wp2_with fail
    refine (same_calls _ _ m _ R1' R2).mono ?_
    rintro e w3 ⟨rfl, hb3⟩
    have HB3 := Below.self_trans HB2 hb3
    have R3 := R1'.below hb3
    clear hb3 R2 R1'
    go_wp2_with fail
    refine (list_calls _ [a ++ (⟨#[44]⟩ : ByteArray) ++ b] _ ((hE.below HB3).below ((Below.refl _ _).alloc (Nat.le_refl _) _)) ⟨_, _, rfl, Nat.le_refl _, by simp [maxLen], by simp, RdC_new w3 [.string (a ++ (⟨#[44]⟩ : ByteArray) ++ b)] 9 (0, 0)⟩ hz2 hN2).mono ?_
    rintro e w4 ⟨⟨v4, rfl, hv4⟩, hb4⟩
    have hb4' := ((Below.refl w3.heap.size w3).alloc (Nat.le_refl _) _).trans (hb4.mono (by simp))
    have HB4 := Below.self_trans HB3 hb4'
    have R4 := hv4.rd
    rw [HJ.out] at R4
    have R4' := R3.below hb4'
    clear hv4 hb4 hb4' R3
    go_wp2_with fail
    refine (same_calls _ _ m _ R4' R4).mono ?_
    rintro e w5 ⟨rfl, hb5⟩
    have HB5 := Below.self_trans HB4 hb5
    have R5 := R4'.below hb5
    clear hb5 R4 R4'
    go_wp2_with fail
    refine (list_calls _ [] _ (hE.below HB5) (RdS_nil _) (by simp) (by simp [elemsS, elems])).mono ?_
    rintro e w6 ⟨⟨v6, rfl, hv6⟩, hb6⟩
    have HB6 := Below.self_trans HB5 hb6
    have R6 := R5.below hb6
    obtain ⟨a6, c6, rfl, -⟩ := owned_slice hv6
    have e6 : (elemsS []).length = 0 := rfl
    clear hb6 hv6 R5
    rw [e6]
    go_wp2
    obtain ⟨a1', cap1', hv, hlc, hcm, -, hc⟩ := id R6
    injection hv with hv1 hv2 hv3
    subst hv1
    subst hv3
    clear hv2
    unfold maxLen at hcm
    have hc0 := R6
    clear R6
    go_loopw [6] (fun i wr => ∃ k : Nat, k ≤ m.length ∧ i = .int .i64 k ∧ Below w.heap.size w wr ∧ RdS wr (.slice a1 m.length c1) m) (fun i _ => m.length - (intOf i).toNat)
    case atStart => exact ⟨0, Nat.zero_le _, rfl, HB6, hc0⟩
    case round =>
      clear hc hc0 HB6 HB5 HB4 HB3 HB2 HB1
      obtain ⟨k, hk, rfl, hbr, hrd⟩ := hrel
      by_cases hlt : k < m.length
      · obtain ⟨a1', cap1', hv, -, -, -, hc⟩ := id hrd
        injection hv with hv1 hv2 hv3
        subst hv1
        clear hv2 hv3
        obtain ⟨b1, off, rfl, hcell⟩ := hc.str k hlt
        obtain ⟨-, hti, hte⟩ := HM.out m[k] (List.getElem_mem hlt)
        have hki : (k : Int) < (m.length : Int) := by omega
        have htz : m[k].size ≤ maxLen := by have := hz3 m[k] (List.getElem_mem hlt); simp [maxLen]; omega
        have HTI := Lib.hid hti
        clear hti hc hz hz2 hz3 hN hN2
        go_wp2
        go_quiet ((go_at_call 18; exact Calls.quiet_of_same (trim_id _ _ HTI.out htz)))
        go_wp2
        go_roundw
        case rel => exact ⟨k + 1, by omega, by go_num, below_drewN hbr _, hrd.below (below_drewN (Below.refl _ _) _)⟩
        case measure => simp [intOf]; omega
      · go_wp2_with fail
        refine (list_calls _ m _ (hE.below hbr) hrd hz3 HN3.out).mono ?_
        rintro e w7 ⟨⟨v7, rfl, hv7⟩, hb7⟩
        have R7 := hv7.rd
        rw [HEE.out] at R7
        have R7' := hrd.below hb7
        have HB7 := Below.self_trans hbr hb7
        clear hv7 hb7 hrd
        go_wp2_with fail
        refine (same_calls _ _ m _ R7 R7').mono ?_
        rintro e w8 ⟨rfl, hb8⟩
        have HB8 := Below.self_trans HB7 hb8
        clear hb8 R7 R7'
        go_wp2_with fail
        refine (awake01_calls _ (hE.below HB8)).mono ?_
        rintro e w9 ⟨rfl, hb9⟩
        go_wp2
        go_ret
        exact ⟨rfl, Below.self_trans HB8 hb9⟩

end Go.Proofs.YtaggaldpigeamaaDoor
