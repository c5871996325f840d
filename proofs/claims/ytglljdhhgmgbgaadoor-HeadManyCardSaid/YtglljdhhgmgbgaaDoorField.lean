/- Package field and its reference: Valid, Parse. -/
import Derived.Test.YtglljdhhgmgbgaaDoorTrim
import Derived.Test.YtglljdhhgmgbgaaDoorEnv
import Derived.Test.YtglljdhhgmgbgaaDoorPA
import Derived.Deep.QuietTactic
import Derived.BigQuiet
import Derived.WalkSmall
import Derived.StillTailTactics
import Derived.BigRegion
import Derived.Deep.RegionWith
namespace Go.Proofs.YtglljdhhgmgbgaaDoor
open Go.RowKit Go.Own
set_option linter.unusedVariables false

theorem bcell {W w1 : World} (hb : Below W.heap.size W w1) : (∀ b o, b < W.heap.size → w1.cell? ⟨b, o, none⟩ = W.cell? ⟨b, o, none⟩) ∧ (∀ b o, b < W.heap.size → w1.frozen? ⟨b, o, none⟩ = W.frozen? ⟨b, o, none⟩) :=
  ⟨fun b o h => hb.cell (p := ⟨b, o, none⟩) h, fun b o h => hb.frozen (p := ⟨b, o, none⟩) h⟩

set_option maxHeartbeats 400000 in
theorem valid_calls (f : Fld) (w : World) (h1 : f.name.size ≤ maxLen) (h2 : f.val.size ≤ maxLen) :
    Calls Tryd.prog 39 #[f.agg] w fun e w' => e = .returned (.bool (validF f)) ∧ Below w.heap.size w w' := by
  obtain ⟨n, v⟩ := f
  unfold Fld.agg
  simp only at h1 h2
  cases ht : token (bl n) with
  | false =>
    have HR := Lib.hid (show validF ⟨n, v⟩ = false by unfold validF; rw [ht]; rfl)
    go_enter Tryd.func39, Tryd.ntmps39
    go_wp2_with fail
    refine (token_calls n _ h1).mono ?_
    rintro e w1 ⟨rfl, rfl⟩
    go_wp2
    go_ret
    exact ⟨ret_bool HR.out.symm, (Below.refl _ _).alloc (Nat.le_refl _) _⟩
  | true =>
    have HR := Lib.hid (show validF ⟨n, v⟩ = value (bl v) by unfold validF; rw [ht]; rfl)
    go_enter Tryd.func39, Tryd.ntmps39
    go_wp2_with fail
    refine (token_calls n _ h1).mono ?_
    rintro e w1 ⟨rfl, rfl⟩
    go_wp2_with fail
    refine (value_calls v _ h2).mono ?_
    rintro e w1 ⟨rfl, rfl⟩
    go_wp2
    go_ret
    exact ⟨ret_bool HR.out.symm, (Below.refl _ _).alloc (Nat.le_refl _) _⟩



/-- strings.Cut at one byte -/
theorem strcut_calls (c : UInt8) (s : ByteArray) (w : World) (hE : Env w) (hs : s.size < 4294967281) :
    Calls Tryd.prog 37 #[.string s, .string ⟨#[c]⟩] w fun e w' => e = .returned (.tuple #[.string (if hasB (bl s) c then bs (before c (bl s)) else s), .string (if hasB (bl s) c then bs (behind c (bl s)) else .empty), .bool (hasB (bl s) c)]) ∧ Below w.heap.size w w' := by
  obtain ⟨m, hm⟩ := hE.max
  refine (Tryd.strings_Cut s ⟨#[c]⟩ m w hs hm).mono ?_
  rintro e w' ⟨rfl, n, rfl⟩
  refine ⟨?_, below_drewN (Below.refl _ _) n⟩
  have h := cut_one c (bl s)
  have e1 : Lib.cut s.data.toList (⟨#[c]⟩ : ByteArray).data.toList = Lib.cut (bl s) [c] := rfl
  rw [e1, h]
  cases hasB (bl s) c
  · simp [bl]; rfl
  · rfl

set_option maxHeartbeats 1000000 in
/-- Parse where there is a colon: the name n, the value t behind Trim -/
theorem fparse_found (s n v t : ByteArray) (w : World) (hC : ∀ w, Env w → Calls Tryd.prog 37 #[.string s, .string ⟨#[58]⟩] w fun e w' => e = .returned (.tuple #[.string n, .string v, .bool true]) ∧ Below w.heap.size w w')
    (hT : ∀ w, Calls Tryd.prog 38 #[.string v] w fun e w' => e = .returned (.string t) ∧ w = w') (hE : Env w) (h1 : n.size ≤ maxLen) (h2 : t.size ≤ maxLen) :
    Calls Tryd.prog 23 #[.string s] w fun e w' => e = .returned (if validF ⟨n, t⟩ = true then .tuple #[.agg #[.string n, .string t], .int .i64 0] else .tuple #[.agg #[.string .empty, .string .empty], .int .i64 2]) ∧ Below w.heap.size w w' := by
  have HC := Lib.hid hC
  have HT := Lib.hid hT
  clear hC hT
  cases hv : validF ⟨n, t⟩ with
  | true =>
    go_enter Tryd.func23, Tryd.ntmps23
    go_wp2_with fail
    refine (HC.out _ (hE.below ((Below.refl _ _).alloc (Nat.le_refl _) _))).mono ?_
    rintro e w1 ⟨rfl, hb1⟩
    obtain ⟨⟨c0, c1⟩, ⟨f0, f1⟩, hz, HB⟩ := kept2 hb1
    clear hb1
    go_wp2_with fail
    refine (HT.out _).mono ?_
    rintro e w2 ⟨rfl, rfl⟩
    go_wp2_with fail
    refine (valid_calls ⟨n, t⟩ _ h1 h2).mono ?_
    rintro e w2 ⟨rfl, hb2⟩
    rw [hv]
    obtain ⟨⟨d0, d1⟩, ⟨e0, e1⟩, hz2, HB2⟩ := kept2 hb2
    clear hb2
    have g0 := (HB2.cell (p := ⟨w.heap.size, 0, none⟩) hz).trans c0
    have g1 := (HB2.cell (p := ⟨w.heap.size, 1, none⟩) hz).trans c1
    have k0 := (HB2.frozen (p := ⟨w.heap.size, 0, none⟩) hz).trans f0
    have k1 := (HB2.frozen (p := ⟨w.heap.size, 1, none⟩) hz).trans f1
    have HB := Below.self_trans HB HB2
    have hz3 := Nat.lt_trans hz hz2
    clear HB2 c0 c1 f0 f1
    go_wp2
    refine bodyPost_ret (v := .tuple #[.agg #[.string n, .string t], .int .i64 0]) (by simp [results, Tryd.results23, go_sem, g0, g1]) rfl ⟨by simp, ?_⟩
    repeat (first | exact HB | refine Below.alloc ?_ ?_ _ | refine Below.setCell ?_ ?_ _)
    all_goals (first | exact Nat.le_refl _ | (simp; done) | (simp; omega) | omega)
  | false =>
    go_enter Tryd.func23, Tryd.ntmps23
    go_wp2_with fail
    refine (HC.out _ (hE.below ((Below.refl _ _).alloc (Nat.le_refl _) _))).mono ?_
    rintro e w1 ⟨rfl, hb1⟩
    obtain ⟨⟨c0, c1⟩, ⟨f0, f1⟩, hz, HB⟩ := kept2 hb1
    clear hb1
    go_wp2_with fail
    refine (HT.out _).mono ?_
    rintro e w2 ⟨rfl, rfl⟩
    go_wp2_with fail
    refine (valid_calls ⟨n, t⟩ _ h1 h2).mono ?_
    rintro e w2 ⟨rfl, hb2⟩
    rw [hv]
    obtain ⟨⟨d0, d1⟩, ⟨e0, e1⟩, hz2, HB2⟩ := kept2 hb2
    clear hb2
    have g0 := (HB2.cell (p := ⟨w.heap.size, 0, none⟩) hz).trans c0
    have g1 := (HB2.cell (p := ⟨w.heap.size, 1, none⟩) hz).trans c1
    have k0 := (HB2.frozen (p := ⟨w.heap.size, 0, none⟩) hz).trans f0
    have k1 := (HB2.frozen (p := ⟨w.heap.size, 1, none⟩) hz).trans f1
    have HB := Below.self_trans HB HB2
    have hz3 := Nat.lt_trans hz hz2
    clear HB2 c0 c1 f0 f1
    go_wp2
    refine bodyPost_ret (v := .tuple #[.agg #[.string ⟨#[]⟩, .string ⟨#[]⟩], .int .i64 2]) (by simp [results, Tryd.results23, go_sem, g0, g1]) rfl ⟨rfl, ?_⟩
    repeat (first | exact HB | refine Below.alloc ?_ ?_ _ | refine Below.setCell ?_ ?_ _)
    all_goals (first | exact Nat.le_refl _ | (simp; done) | (simp; omega) | omega)

set_option maxHeartbeats 1000000 in
theorem fparse_calls (s : ByteArray) (w : World) (hE : Env w) (hs : s.size < 4294967281) :
    Calls Tryd.prog 23 #[.string s] w fun e w' => e = .returned (parseV s) ∧ Below w.heap.size w w' := by
  have hC := fun w hE => strcut_calls 58 s w hE hs
  cases hh : hasB (bl s) 58 with
  | false =>
    have HR := Lib.hid (show parseV s = .tuple #[.agg #[.string .empty, .string .empty], .int .i64 2] by unfold parseV parseF; rw [hh]; rfl)
    rw [hh] at hC
    go_enter Tryd.func23, Tryd.ntmps23
    go_wp2_with fail
    refine (hC _ (hE.below ((Below.refl _ _).alloc (Nat.le_refl _) _))).mono ?_
    rintro e w1 ⟨rfl, hb1⟩
    clear hC
    obtain ⟨⟨c0, c1⟩, ⟨f0, f1⟩, hz, HB⟩ := kept2 hb1
    clear hb1
    have hte : trimB ByteArray.empty = ByteArray.empty := by decide +kernel
    go_wp2_with fail
    refine (trim_calls _ _ (by decide)).mono ?_
    rintro e w2 ⟨rfl, rfl⟩
    rw [hte]
    go_wp2
    refine bodyPost_ret (v := .tuple #[.agg #[.string ⟨#[]⟩, .string ⟨#[]⟩], .int .i64 2]) (by simp [results, Tryd.results23, go_sem, c0, c1, hz]) rfl ⟨by rw [HR.out]; rfl, ?_⟩
    repeat (first | exact HB | refine Below.alloc ?_ ?_ _ | refine Below.setCell ?_ ?_ _)
    all_goals (first | exact Nat.le_refl _ | (simp; done) | (simp; omega) | omega)
  | true =>
    rw [hh] at hC
    simp only [if_true] at hC
    have HS1 : (bs (behind 58 (bl s))).size ≤ maxLen := by rw [bs_size]; have := behind_len 58 (bl s); rw [bl_length] at this; simp [maxLen]; omega
    have HS2 : (bs (before 58 (bl s))).size ≤ maxLen := by rw [bs_size]; have := before_len 58 (bl s); rw [bl_length] at this; simp [maxLen]; omega
    have hP := parseV_some hh
    rw [hP]
    exact fparse_found s _ _ _ w hC (fun w => trim_calls _ w HS1) hE HS2 (Nat.le_trans (trimB_size _) HS1)

end Go.Proofs.YtglljdhhgmgbgaaDoor