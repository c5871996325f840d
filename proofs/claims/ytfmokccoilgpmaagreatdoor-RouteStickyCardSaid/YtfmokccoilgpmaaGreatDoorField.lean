/- Package field and its reference: Valid, Parse. -/
import Derived.Test.YtfmokccoilgpmaaGreatDoorTrim
import Derived.Test.YtfmokccoilgpmaaGreatDoorEnv
import Derived.Test.YtfmokccoilgpmaaGreatDoorPA
import Derived.Deep.QuietTactic
import Derived.BigQuiet
import Derived.WalkSmall
import Derived.StillTailTactics
import Derived.BigRegion
import Derived.Deep.RegionWith
namespace Go.Proofs.YtfmokccoilgpmaaGreatDoor
open Go.RowKit Go.Own
set_option linter.unusedVariables false

theorem bcell {W w1 : World} (hb : Below W.heap.size W w1) : (∀ b o, b < W.heap.size → w1.cell? ⟨b, o, none⟩ = W.cell? ⟨b, o, none⟩) ∧ (∀ b o, b < W.heap.size → w1.frozen? ⟨b, o, none⟩ = W.frozen? ⟨b, o, none⟩) :=
  ⟨fun b o h => hb.cell (p := ⟨b, o, none⟩) h, fun b o h => hb.frozen (p := ⟨b, o, none⟩) h⟩





/-- strings.Cut at one byte -/
theorem strcut_calls (c : UInt8) (s : ByteArray) (w : World) (hE : Env w) (hs : s.size < 4294967281) :
    Calls Tryz.prog 79 #[.string s, .string ⟨#[c]⟩] w fun e w' => e = .returned (.tuple #[.string (if hasB (bl s) c then bs (before c (bl s)) else s), .string (if hasB (bl s) c then bs (behind c (bl s)) else .empty), .bool (hasB (bl s) c)]) ∧ Below w.heap.size w w' := by
  obtain ⟨m, hm⟩ := hE.max
  refine (Tryz.strings_Cut s ⟨#[c]⟩ m w hs hm).mono ?_
  rintro e w' ⟨rfl, n, rfl⟩
  refine ⟨?_, below_drewN (Below.refl _ _) n⟩
  have h := cut_one c (bl s)
  have e1 : Lib.cut s.data.toList (⟨#[c]⟩ : ByteArray).data.toList = Lib.cut (bl s) [c] := rfl
  rw [e1, h]
  cases hasB (bl s) c
  · simp [bl]; rfl
  · rfl





end Go.Proofs.YtfmokccoilgpmaaGreatDoor