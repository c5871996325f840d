/- Package field and its reference: Valid, Parse. -/
import Derived.Test.YtajohphiclbjkaaDoorRRTrim
import Derived.Test.YtajohphiclbjkaaDoorRREnv
import Derived.Test.YtajohphiclbjkaaDoorRRFieldP
import Derived.Deep.QuietTactic
import Derived.BigQuiet
import Derived.WalkSmall
import Derived.StillTailTactics
import Derived.BigRegion
import Derived.Deep.RegionWith
namespace Go.Proofs.YtajohphiclbjkaaDoorRR
open Go.RowKit Go.Own
set_option linter.unusedVariables false

theorem bcell {W w1 : World} (hb : Below W.heap.size W w1) : (∀ b o, b < W.heap.size → w1.cell? ⟨b, o, none⟩ = W.cell? ⟨b, o, none⟩) ∧ (∀ b o, b < W.heap.size → w1.frozen? ⟨b, o, none⟩ = W.frozen? ⟨b, o, none⟩) :=
  ⟨fun b o h => hb.cell (p := ⟨b, o, none⟩) h, fun b o h => hb.frozen (p := ⟨b, o, none⟩) h⟩

set_option maxHeartbeats 400000 in
theorem valid_calls (f : Fld) (w : World) (h1 : f.name.size ≤ maxLen) (h2 : f.val.size ≤ maxLen) :
    Calls Tryd.prog 152 #[f.agg] w fun e w' => e = .returned (.bool (validF f)) ∧ Below w.heap.size w w' := by
  obtain ⟨n, v⟩ := f
  unfold Fld.agg
  simp only at h1 h2
  cases ht : token (bl n) with
  | false =>
    have HR := Lib.hid (show validF ⟨n, v⟩ = false by unfold validF; rw [ht]; rfl)
    go_enter Tryd.func152, Tryd.ntmps152
    go_wp2_with fail
    refine (token_calls n _ h1).mono ?_
    rintro e w1 ⟨rfl, rfl⟩
    go_wp2
    go_ret
    exact ⟨ret_bool HR.out.symm, (Below.refl _ _).alloc (Nat.le_refl _) _⟩
  | true =>
    have HR := Lib.hid (show validF ⟨n, v⟩ = value (bl v) by unfold validF; rw [ht]; rfl)
    go_enter Tryd.func152, Tryd.ntmps152
    go_wp2_with fail
    refine (token_calls n _ h1).mono ?_
    rintro e w1 ⟨rfl, rfl⟩
    go_wp2_with fail
    refine (value_calls v _ h2).mono ?_
    rintro e w1 ⟨rfl, rfl⟩
    go_wp2
    go_ret
    exact ⟨ret_bool HR.out.symm, (Below.refl _ _).alloc (Nat.le_refl _) _⟩

set_option maxHeartbeats 400000 in
theorem refValid_calls (f : Fld) (w : World) (h1 : f.name.size ≤ maxLen) (h2 : f.val.size ≤ maxLen) :
    Calls Tryd.prog 137 #[f.agg] w fun e w' => e = .returned (.bool (validF f)) ∧ Below w.heap.size w w' := by
  obtain ⟨n, v⟩ := f
  unfold Fld.agg
  simp only at h1 h2
  cases ht : token (bl n) with
  | false =>
    have HR := Lib.hid (show validF ⟨n, v⟩ = false by unfold validF; rw [ht]; rfl)
    go_enter Tryd.func137, Tryd.ntmps137
    go_wp2_with fail
    refine (refToken_calls n _ h1).mono ?_
    rintro e w1 ⟨rfl, rfl⟩
    go_wp2
    go_ret
    exact ⟨ret_bool HR.out.symm, (Below.refl _ _).alloc (Nat.le_refl _) _⟩
  | true =>
    have HR := Lib.hid (show validF ⟨n, v⟩ = value (bl v) by unfold validF; rw [ht]; rfl)
    go_enter Tryd.func137, Tryd.ntmps137
    go_wp2_with fail
    refine (refToken_calls n _ h1).mono ?_
    rintro e w1 ⟨rfl, rfl⟩
    go_wp2_with fail
    refine (refValue_calls v _ h2).mono ?_
    rintro e w1 ⟨rfl, rfl⟩
    go_wp2
    go_ret
    exact ⟨ret_bool HR.out.symm, (Below.refl _ _).alloc (Nat.le_refl _) _⟩

/-- strings.Cut at one byte -/
theorem strcut_calls (c : UInt8) (s : ByteArray) (w : World) (hE : Env w) (hs : s.size < 4294967281) :
    Calls Tryd.prog 64 #[.string s, .string ⟨#[c]⟩] w fun e w' => e = .returned (.tuple #[.string (if hasB (bl s) c then bs (before c (bl s)) else s), .string (if hasB (bl s) c then bs (behind c (bl s)) else .empty), .bool (hasB (bl s) c)]) ∧ Below w.heap.size w w' := by
  obtain ⟨m, hm⟩ := hE.max
  refine (Tryd.strings_Cut s ⟨#[c]⟩ m w hs hm).mono ?_
  rintro e w' ⟨rfl, n, rfl⟩
  refine ⟨?_, below_drewN (Below.refl _ _) n⟩
  have h := cut_one c (bl s)
  have e1 : Lib.cut s.data.toList (⟨#[c]⟩ : ByteArray).data.toList = Lib.cut (bl s) [c] := rfl
  rw [e1, h]
  cases hasB (bl s) c
  · simp [bl]; rfl
  · rfl





end Go.Proofs.YtajohphiclbjkaaDoorRR