/- Values, Has of package field and of its reference. -/
import Derived.Test.YtfmokccoilgpmaaGreatDoorField
namespace Go.Proofs.YtfmokccoilgpmaaGreatDoor
open Go.RowKit Go.Own
set_option linter.unusedVariables false

/-- the values of the fields with a name -/
def valuesS (l : List Fld) (name : ByteArray) : List ByteArray := (l.filter fun f => foldB f.name name).map (·.val)

set_option maxHeartbeats 1000000 in
theorem is_calls (n v f name : ByteArray) (w : World) (h : name.size ≤ maxLen) :
    Calls Tryz.prog 97 #[.agg #[.string n, .string v, .string f], .string name] w fun e w' => e = .returned (.bool (seq f (lowerB name))) ∧ Below w.heap.size w w' := by
  go_enter Tryz.func97, Tryz.ntmps97
  go_wp2_with fail
  go_region_with ((go_at_call 116; refine (lower_calls name _ h).mono ?_; rintro e w1 ⟨rfl, hb1⟩; have k2 := (keptN (w := w) (cs := #[.string n, .string v, .string f]) (T := 128) ⟨hb1.os, hb1.tape, hb1.output, hb1.size, hb1.block⟩ 2).1; have hb2 := kept_below (w := w) (o := .cells #[.string n, .string v, .string f] 128) ⟨hb1.os, hb1.tape, hb1.output, hb1.size, hb1.block⟩; clear hb1))
  all_goals
    go_wp2
    go_ret
    exact ⟨rfl, ‹Below w.heap.size w _›⟩

set_option maxHeartbeats 1000000 in
theorem fof_calls (n v : ByteArray) (w : World) (h : n.size ≤ maxLen) :
    Calls Tryz.prog 96 #[.agg #[.string n, .string v]] w fun e w' => e = .returned (.agg #[.string n, .string v, .string (lowerB n)]) ∧ Below w.heap.size w w' := by
  go_enter Tryz.func96, Tryz.ntmps96
  go_wp2_with fail
  go_region_with ((go_at_call 116; refine (lower_calls n _ h).mono ?_; rintro e w1 ⟨rfl, hb1⟩; have hb2 : Below ((w.alloc (.cells #[.string n, .string v] 45)).alloc (.cells #[.string ⟨#[]⟩, .string ⟨#[]⟩, .string ⟨#[]⟩] 128)).heap.size ((w.alloc (.cells #[.string n, .string v] 45)).alloc (.cells #[.string ⟨#[]⟩, .string ⟨#[]⟩, .string ⟨#[]⟩] 128)) w1 := ⟨hb1.os, hb1.tape, hb1.output, hb1.size, hb1.block⟩; clear hb1; have k0 := (keptM hb2 0).1; have k1 := (keptM hb2 1).1; have k2 := (keptM hb2 2).1; have f0 := (keptM hb2 0).2; have f1 := (keptM hb2 1).2; have f2 := (keptM hb2 2).2; have hb3 := kept_below hb2; have c0 := (keptN hb3 0).1; have c1 := (keptN hb3 1).1; have hz := keptM_lt hb2; have HB := kept_below hb3; clear hb2 hb3))
  all_goals go_wp2
  all_goals
    refine bodyPost_ret (v := .agg #[.string n, .string v, .string (lowerB n)]) (by first | (simp [results, Tryz.results96, go_sem, k0, k1, k2]; done) | (simp [results, Tryz.results96, go_sem, k0, k1, k2, c0]; done) | (simp [results, Tryz.results96, go_sem, k0, k1, k2, c1]; done) | simp [results, Tryz.results96, go_sem, k0, k1, k2, c0, c1]) rfl ⟨rfl, ?_⟩
    repeat (first | exact HB | refine Below.alloc ?_ ?_ _ | refine Below.setCell ?_ ?_ _)
    all_goals (first | exact Nat.le_refl _ | (simp; done) | (simp; omega) | omega)

end Go.Proofs.YtfmokccoilgpmaaGreatDoor
