/- The layer-07 law package's own functions: awake; the core of LineTarget. -/
import Derived.Test.YtajohphiclbjkaaDoorRRLineS
import Derived.Test.YtajohphiclbjkaaDoorRRLineT
namespace Go.Proofs.YtajohphiclbjkaaDoorRR
open Go.RowKit Go.Own
set_option linter.unusedVariables false
set_option maxHeartbeats 2000000

theorem p07a : parseReq ⟨#[71, 69, 84, 32, 47, 97, 63, 98, 32, 72, 84, 84, 80, 47, 49, 46, 49]⟩ = (some (⟨#[71, 69, 84]⟩, ⟨#[47, 97, 63, 98]⟩, 1), 0) := by decide +kernel
theorem p07b : parseReq ⟨#[71, 69, 84, 32, 47, 32, 72, 84, 84, 80, 47, 50, 46, 48]⟩ = (none, 6) := by decide +kernel
theorem p07c : parseSt ⟨#[72, 84, 84, 80, 47, 49, 46, 49, 32, 50, 48, 52]⟩ = some (204, .empty, 1) := by decide +kernel
theorem p07d : (if hasB (bl (⟨#[47, 97, 63, 98]⟩ : ByteArray)) 63 then bs (before 63 (bl (⟨#[47, 97, 63, 98]⟩ : ByteArray))) else ⟨#[47, 97, 63, 98]⟩) = ⟨#[47, 97]⟩ ∧ (if hasB (bl (⟨#[47, 97, 63, 98]⟩ : ByteArray)) 63 then bs (behind 63 (bl (⟨#[47, 97, 63, 98]⟩ : ByteArray))) else .empty) = ⟨#[98]⟩ := by decide +kernel

theorem c07a (w : World) (hE : Env w) : Calls Tryd.prog 15 #[.string ⟨#[71, 69, 84, 32, 47, 97, 63, 98, 32, 72, 84, 84, 80, 47, 49, 46, 49]⟩] w fun e w' => e = .returned (.tuple #[.agg #[.string ⟨#[71, 69, 84]⟩, .string ⟨#[47, 97, 63, 98]⟩, .int .i64 1, .slice none 0 0, .bool false, .slice none 0 0], .int .i64 0]) ∧ Below w.heap.size w w' := by
  refine (parseReq_calls _ w hE (by decide)).mono ?_
  rintro e w' ⟨rfl, hb⟩
  rw [p07a]
  exact ⟨rfl, hb⟩
theorem c07b (w : World) (hE : Env w) : Calls Tryd.prog 15 #[.string ⟨#[71, 69, 84, 32, 47, 32, 72, 84, 84, 80, 47, 50, 46, 48]⟩] w fun e w' => e = .returned (.tuple #[.agg #[.string .empty, .string .empty, .int .i64 0, .slice none 0 0, .bool false, .slice none 0 0], .int .i64 6]) ∧ Below w.heap.size w w' := by
  refine (parseReq_calls _ w hE (by decide)).mono ?_
  rintro e w' ⟨rfl, hb⟩
  rw [p07b]
  exact ⟨rfl, hb⟩
theorem c07c (w : World) (hE : Env w) : Calls Tryd.prog 21 #[.string ⟨#[72, 84, 84, 80, 47, 49, 46, 49, 32, 50, 48, 52]⟩] w fun e w' => e = .returned (.tuple #[.agg #[.int .i64 204, .string .empty, .int .i64 1, .slice none 0 0, .slice none 0 0], .int .i64 0]) ∧ Below w.heap.size w w' := by
  refine (parseSt_calls _ w hE (by decide)).mono ?_
  rintro e w' ⟨rfl, hb⟩
  rw [p07c]
  exact ⟨rfl, hb⟩
theorem c07d (w : World) (hE : Env w) : Calls Tryd.prog 24 #[.string ⟨#[47, 97, 63, 98]⟩] w fun e w' => e = .returned (.tuple #[.string ⟨#[47, 97]⟩, .string ⟨#[98]⟩]) ∧ Below w.heap.size w w' := by
  refine (split_calls _ w hE (by decide)).mono ?_
  rintro e w' ⟨rfl, hb⟩
  rw [p07d.1, p07d.2]
  exact ⟨rfl, hb⟩

theorem awake07_calls (w : World) (hE : Env w) : Calls Tryd.prog 18 #[] w fun e w' => e = .returned (.bool true) ∧ Below w.heap.size w w' := by
  have C1 := Lib.hid (fun w hE => c07a w hE)
  have C2 := Lib.hid (fun w hE => c07b w hE)
  have C3 := Lib.hid (fun w hE => c07c w hE)
  have C4 := Lib.hid (fun w hE => c07d w hE)
  go_enter Tryd.func18, Tryd.ntmps18
  go_wp2_with fail
  refine (C1.out _ hE).mono ?_
  rintro e w1 ⟨rfl, hb1⟩
  have HB1 := hb1
  clear hb1
  go_wp2_with fail
  refine (C2.out _ ((hE.below HB1).below ((Below.refl _ _).alloc (Nat.le_refl _) _))).mono ?_
  rintro e w2 ⟨rfl, hb2⟩
  have k1 := (keptN hb2 1).1
  have k2 := (keptN hb2 2).1
  have hlt := kept_lt hb2
  have HB2 := Below.self_trans HB1 (kept_below hb2)
  clear hb2
  go_wp2_with fail
  refine (C3.out _ ((hE.below HB2).below ((Below.refl _ _).alloc (Nat.le_refl _) _))).mono ?_
  rintro e w3 ⟨rfl, hb3⟩
  have hb4 := kept_below hb3
  have j1 := ((bcell hb4).1 _ 1 hlt).trans k1
  have j2 := ((bcell hb4).1 _ 2 hlt).trans k2
  have hlt2 := Nat.lt_of_lt_of_le hlt hb4.size
  have HB3 := Below.self_trans HB2 hb4
  clear hb3 hb4 k1 k2
  go_wp2_with fail
  refine (C4.out _ ((hE.below HB3).below ((Below.refl _ _).alloc (Nat.le_refl _) _))).mono ?_
  rintro e w4 ⟨rfl, hb5⟩
  have l0 := (keptN hb5 0).1
  have hb6 := kept_below hb5
  have i2 := ((bcell hb6).1 _ 2 hlt2).trans j2
  have HB4 := Below.self_trans HB3 hb6
  clear hb5 hb6 j1 j2
  go_wp2
  go_ret
  exact ⟨rfl, HB4⟩
end Go.Proofs.YtajohphiclbjkaaDoorRR
