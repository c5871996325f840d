/- FormatRequest and FormatStatus of the package and of the reference; a byte of a line changed. -/
import Derived.Test.YtglljdhhgmgbgaaDoorLineR
import Derived.Test.YtglljdhhgmgbgaaDoorPA
import Derived.Test.YtglljdhhgmgbgaaDoorDec
import Derived.Test.YtglljdhhgmgbgaaDoorNumR
import Derived.Test.YtglljdhhgmgbgaaDoorPB
import Derived.Test.YtglljdhhgmgbgaaDoorSource
namespace Go.Proofs.YtglljdhhgmgbgaaDoor
open Go.RowKit Go.Own
set_option linter.unusedVariables false
set_option maxHeartbeats 2000000

theorem bl_append (a b : ByteArray) : bl (a ++ b) = bl a ++ bl b := by unfold bl; rw [ByteArray.data_append, Array.toList_append]

theorem fmtReq_calls (m t : ByteArray) (n : Int) (va : Value) (fr : Bool) (vb : Value) (w : World) (hE : EnvP w) (hm : m.size ≤ 1000000000) (ht : t.size ≤ 1000000000) :
    Calls Tryd.prog 13 #[.agg #[.string m, .string t, .int .i64 n, va, .bool fr, vb]] w fun e w' => e = .returned (.string (fmtReq m t n)) ∧ Below w.heap.size w w' := by
  have hm2 : m.size ≤ maxLen := by simp [maxLen]; omega
  have ht2 : t.size ≤ maxLen := by simp [maxLen]; omega
  have HTm := Lib.hid (fun w => token_calls m w hm2)
  have HTt := Lib.hid (fun w => target_calls t w ht2)
  have HB0 := (Below.refl w.heap.size w).alloc (Nat.le_refl _) (.cells #[.string m, .string t, .int .i64 n, va, .bool fr, vb] 28)
  have HN := Lib.hid (fun h => fmtReq_no (m := m) (t := t) (n := n) h)
  have HO := Lib.hid (show okReq m t n = (token (bl m) && targetB t && decide (0 ≤ n) && decide (n ≤ 1)) from rfl)
  have HY := Lib.hid (fun h : okReq m t n = true => (show fmtReq m t n = m ++ ⟨#[32]⟩ ++ t ++ ⟨#[32]⟩ ++ ⟨#[72, 84, 84, 80, 47, 49, 46]⟩ ++ bs (digs 10 n.toNat) by
    unfold fmtReq; rw [if_pos h]
    refine bl_inj ?_
    simp only [bl_append, bl_bs, List.append_assoc]
    rfl))
  clear hm2 ht2
  cases htk : token (bl m) with
  | false =>
    have HR := Lib.hid (HN.out (by rw [HO.out, htk]; rfl))
    rw [htk] at HTm
    clear HN HO HY htk
    go_enter Tryd.func13, Tryd.ntmps13
    go_wp2_with fail
    refine (HTm.out _).mono ?_
    rintro e w1 ⟨rfl, rfl⟩
    have HB1 := HB0
    go_wp2
    go_ret
    exact ⟨ret_str HR.out.symm, HB1⟩
  | true =>
    rw [htk] at HTm
    cases htg : targetB t with
    | false =>
      have HR := Lib.hid (HN.out (by rw [HO.out, htk, htg]; rfl))
      rw [htg] at HTt
      clear HN HO HY htk htg
      go_enter Tryd.func13, Tryd.ntmps13
      go_wp2_with fail
      refine (HTm.out _).mono ?_
      rintro e w1 ⟨rfl, rfl⟩
      have HB1 := HB0
      go_wp2_with fail
      refine (HTt.out _).mono ?_
      rintro e w2 ⟨rfl, hb2⟩
      have HB2 := Below.self_trans HB1 hb2
      go_wp2
      go_ret
      exact ⟨ret_str HR.out.symm, HB2⟩
    | true =>
      rw [htg] at HTt
      by_cases hn : n = 0 ∨ n = 1
      · have HR := Lib.hid (HY.out (by rw [HO.out, htk, htg]; rcases hn with rfl | rfl <;> rfl))
        have n0 : ¬ n < 0 := by omega
        have n1 : ¬ 1 < n := by omega
        have HN1 := Lib.hid (show n = (n.toNat : Int) by omega)
        have hn2 : n.toNat ≤ 9223372036854775807 := by omega
        have z1 : (bs (digs 10 n.toNat)).size ≤ 1 := by
          rw [bs_size]; rcases hn with rfl | rfl
          · rw [show (0 : Int).toNat = 0 from rfl, digs0]; decide
          · rw [show (1 : Int).toNat = 1 from rfl, digs1]; decide
        clear HN HO HY htk htg hn
        go_enter Tryd.func13, Tryd.ntmps13
        go_wp2_with fail
        refine (HTm.out _).mono ?_
        rintro e w1 ⟨rfl, rfl⟩
        have HB1 := HB0
        go_wp2_with fail
        refine (HTt.out _).mono ?_
        rintro e w2 ⟨rfl, hb2⟩
        have HB2 := Below.self_trans HB1 hb2
        obtain ⟨⟨c0, c1, c2, c3, c4, c5⟩, ⟨f0, f1, f2, f3, f4, f5⟩, hz⟩ := row6 (row_new hb2)
        have hEx : ∀ x : After w2, EnvP x.now := fun x => (hE.below HB2).below x.h
        have d0 := After.keep c0
        have d1 := After.keep c1
        have d2 := After.keep c2
        go_wp2_with fail
        refine wp_region_below (by kernel_rfl) (by kernel_rfl) ?_
        repeat (go_big_quiet_step ((go_at_call 26; exact (After.call (decimal_calls n.toNat n _ (hEx _) HN1.out hn2)))))
        refine wpQuiet_nil ?_
        rintro w9 ⟨x, rfl⟩
        have HB9 := Below.self_trans HB2 x.h
        go_wp2
        go_ret
        exact ⟨ret_str HR.out.symm, HB9⟩
      · have HR := Lib.hid (HN.out (by
          rw [HO.out, htk, htg]
          by_cases h0 : 0 ≤ n
          · rw [decide_eq_false (show ¬ n ≤ 1 by omega)]; simp
          · rw [decide_eq_false h0]; rfl))
        clear HN HO HY htk htg
        by_cases h0 : n < 0
        · go_enter Tryd.func13, Tryd.ntmps13
          go_wp2_with fail
          refine (HTm.out _).mono ?_
          rintro e w1 ⟨rfl, rfl⟩
          have HB1 := HB0
          go_wp2_with fail
          refine (HTt.out _).mono ?_
          rintro e w2 ⟨rfl, hb2⟩
          have HB2 := Below.self_trans HB1 hb2
          obtain ⟨⟨c0, c1, c2, c3, c4, c5⟩, ⟨f0, f1, f2, f3, f4, f5⟩, hz⟩ := row6 (row_new hb2)
          go_wp2
          go_ret
          exact ⟨ret_str HR.out.symm, HB2⟩
        · have h1 : 1 < n := by omega
          go_enter Tryd.func13, Tryd.ntmps13
          go_wp2_with fail
          refine (HTm.out _).mono ?_
          rintro e w1 ⟨rfl, rfl⟩
          have HB1 := HB0
          go_wp2_with fail
          refine (HTt.out _).mono ?_
          rintro e w2 ⟨rfl, hb2⟩
          have HB2 := Below.self_trans HB1 hb2
          obtain ⟨⟨c0, c1, c2, c3, c4, c5⟩, ⟨f0, f1, f2, f3, f4, f5⟩, hz⟩ := row6 (row_new hb2)
          go_wp2
          go_ret
          exact ⟨ret_str HR.out.symm, HB2⟩


        




end Go.Proofs.YtglljdhhgmgbgaaDoor