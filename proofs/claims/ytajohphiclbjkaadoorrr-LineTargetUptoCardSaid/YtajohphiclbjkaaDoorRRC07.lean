/- The core of LineTarget. -/
import Derived.Test.YtajohphiclbjkaaDoorRRL07
namespace Go.Proofs.YtajohphiclbjkaaDoorRR
open Go.RowKit Go.Own
set_option linter.unusedVariables false
set_option maxHeartbeats 2000000

theorem cut_eq {t : ByteArray} (h : hasB (bl t) 63 = true) : t = bs (before 63 (bl t)) ++ ⟨#[63]⟩ ++ bs (behind 63 (bl t)) := by
  refine bl_inj ?_
  have h1 := cut_whole h
  unfold bl at h1 ⊢
  rw [ByteArray.data_append, ByteArray.data_append, Array.toList_append, Array.toList_append]
  conv => lhs; rw [h1]
  simp [bs]

theorem lineTarget_core (s : ByteArray) (vr : Value) (raw : List UInt8) (w : World) (hE : Env w) (h1 : s.size ≤ 1048576) (h2 : raw.length ≤ 1048576) (Hr : RdB w vr raw) :
    Calls Tryd.prog 5 #[.string s, vr] w fun e w' => e = .returned (.bool true) ∧ Below w.heap.size w w' := by
  obtain ⟨a, cap, rfl, hlc, hcm, hcn, hc⟩ := Hr
  have hz : (⟨raw.toArray⟩ : ByteArray).size ≤ 1048576 := by show raw.toArray.size ≤ 1048576; simpa using h2
  have hz2 : ¬ 9223372036854775807 < (⟨#[47]⟩ : ByteArray).size + (⟨raw.toArray⟩ : ByteArray).size := by show ¬ _ < 1 + _; omega
  have hs2 : s.size ≤ maxLen := by simp [maxLen]; omega
  have S1 := Lib.hid (fun w hE => split_calls s w hE (by omega))
  have S2 := Lib.hid (fun w => refSplitQ_calls s w (by omega))
  have T1 := Lib.hid (fun w => target_calls s w hs2)
  have T2 := Lib.hid (fun w => refTarget_calls s w hs2)
  generalize (if hasB (bl s) 63 then bs (before 63 (bl s)) else s) = p1 at S1 S2
  generalize (if hasB (bl s) 63 then bs (behind 63 (bl s)) else .empty) = q1 at S1 S2
  generalize targetB s = b1 at T1 T2
  clear hs2
  have P1 := Lib.hid (fun w hE => awake07_calls w hE)
  have hht : ∀ t : ByteArray, t.size ≤ 1048577 → Hid (∀ w, Env w → Calls Tryd.prog 24 #[.string t] w fun e w' => e = .returned (.tuple #[.string (if hasB (bl t) 63 then bs (before 63 (bl t)) else t), .string (if hasB (bl t) 63 then bs (behind 63 (bl t)) else .empty)]) ∧ Below w.heap.size w w') ∧
      Hid (∀ w, Calls Tryd.prog 26 #[.string t] w fun e w' => e = .returned (.bool (targetB t)) ∧ Below w.heap.size w w') ∧
      Hid (∀ w, Calls Tryd.prog 27 #[.string t] w fun e w' => e = .returned (.bool (targetB t)) ∧ w = w') := fun t ht =>
    have ht2 : t.size ≤ maxLen := by simp [maxLen]; omega
    ⟨Lib.hid (fun w hE => split_calls t w hE (by omega)), Lib.hid (fun w => target_calls t w ht2), Lib.hid (fun w => refTarget_calls t w ht2)⟩
  have e1 : (p1.toList == p1.toList) = true := by simp
  have e2 : (q1.toList == q1.toList) = true := by simp
  have e3 : (b1 == b1) = true := by simp
  have HB0 := Below.refl w.heap.size w
  go_enter Tryd.func5, Tryd.ntmps5
  go_wp2_with (refine wpList_bytesstr rfl 25 9 _ rfl _ _ _ rfl 5 Tryd.underlying25 Tryd.underlying5 Tryd.underlying9 raw rfl hc ?_)
  have ht0 : ((⟨#[47]⟩ : ByteArray) ++ ⟨raw.toArray⟩).size ≤ 1048577 := by rw [ByteArray.size_append]; show 1 + _ ≤ _; omega
  clear hz2 hz
  generalize ((⟨#[47]⟩ : ByteArray) ++ ⟨raw.toArray⟩) = t at ht0 ⊢
  obtain ⟨S3, T3, T4⟩ := hht t ht0
  generalize targetB t = b2 at T3 T4
  have e4 : (b2 == b2) = true := by simp
  have e5 : (t.toList == t.toList) = true := by simp
  clear hht hc
  refine (S1.out _ hE).mono ?_
  rintro e w1 ⟨rfl, hb1⟩
  have HB1 := Below.self_trans HB0 hb1
  clear hb1
  go_wp2_with fail
  refine (S2.out _).mono ?_
  rintro e w2 ⟨rfl, hb2⟩
  have HB2 := Below.self_trans HB1 hb2
  clear hb2
  cases hq : hasB (bl t) 63 with
  | false =>
    rw [hq] at S3
    go_wp2_with fail
    refine (S3.out _ (hE.below HB2)).mono ?_
    rintro e w3 ⟨rfl, hb3⟩
    simp only [Bool.false_eq_true, if_false]
    have HB3 := Below.self_trans HB2 hb3
    clear hb3 S3
    go_wp2_with fail
    refine (T1.out _).mono ?_
    rintro e w4 ⟨rfl, hb4⟩
    have HB4 := Below.self_trans HB3 hb4
    clear hb4
    go_wp2_with fail
    refine (T2.out _).mono ?_
    rintro e w5 ⟨rfl, rfl⟩
    go_wp2_with fail
    refine (T3.out _).mono ?_
    rintro e w6 ⟨rfl, hb6⟩
    have HB6 := Below.self_trans HB4 hb6
    clear hb6
    go_wp2_with fail
    refine (T4.out _).mono ?_
    rintro e w7 ⟨rfl, rfl⟩
    go_wp2_with fail
    refine (P1.out _ (hE.below HB6)).mono ?_
    rintro e w8 ⟨rfl, hb8⟩
    have HB8 := Below.self_trans HB6 hb8
    clear hb8
    go_wp2
    go_ret
    exact ⟨rfl, HB8⟩
  | true =>
    have hcut := cut_eq hq
    rw [hq] at S3
    simp only [if_true] at S3
    generalize bs (before 63 (bl t)) = p at hcut S3
    generalize bs (behind 63 (bl t)) = q at hcut S3
    have hsz := congrArg ByteArray.size hcut
    rw [ByteArray.size_append, ByteArray.size_append] at hsz
    have hsz2 : (⟨#[63]⟩ : ByteArray).size = 1 := rfl
    have n1 : (t.toList == p.toList) = false := by
      cases hh : (t.toList == p.toList) with
      | false => rfl
      | true =>
        have := (seq_iff t p).1 hh
        rw [this] at hsz
        omega
    have n2 : (t.toList == (p ++ ⟨#[63]⟩ ++ q).toList) = true := by rw [← hcut]; simp
    have z1 : ¬ 9223372036854775807 < p.size + (⟨#[63]⟩ : ByteArray).size := by omega
    have z2 : ¬ 9223372036854775807 < (p ++ ⟨#[63]⟩).size + q.size := by rw [ByteArray.size_append]; omega
    have HC := Lib.hid hcut
    have HSZ := Lib.hid hsz
    clear hcut hsz hsz2 e5
    go_wp2_with fail
    refine (S3.out _ (hE.below HB2)).mono ?_
    rintro e w3 ⟨rfl, hb3⟩
    have HB3 := Below.self_trans HB2 hb3
    clear hb3 S3
    go_wp2_with fail
    refine (T1.out _).mono ?_
    rintro e w4 ⟨rfl, hb4⟩
    have HB4 := Below.self_trans HB3 hb4
    clear hb4
    go_wp2_with fail
    refine (T2.out _).mono ?_
    rintro e w5 ⟨rfl, rfl⟩
    go_wp2_with fail
    refine (T3.out _).mono ?_
    rintro e w6 ⟨rfl, hb6⟩
    have HB6 := Below.self_trans HB4 hb6
    clear hb6
    go_wp2_with fail
    refine (T4.out _).mono ?_
    rintro e w7 ⟨rfl, rfl⟩
    go_wp2_with fail
    refine (P1.out _ (hE.below HB6)).mono ?_
    rintro e w8 ⟨rfl, hb8⟩
    have HB8 := Below.self_trans HB6 hb8
    clear hb8
    go_wp2
    go_ret
    exact ⟨rfl, HB8⟩
end Go.Proofs.YtajohphiclbjkaaDoorRR
