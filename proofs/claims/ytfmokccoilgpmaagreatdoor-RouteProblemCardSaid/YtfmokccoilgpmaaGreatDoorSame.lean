/- SameRequest and SameReply of the reference, at equal messages. -/
import Derived.Test.YtfmokccoilgpmaaGreatDoorW06
namespace Go.Proofs.YtfmokccoilgpmaaGreatDoor
open Go.RowKit Go.Own
set_option linter.unusedVariables false
set_option maxHeartbeats 1000000



theorem sameRep_calls (n : Int) (r : ByteArray) (m : Int) (va va' vb vb' : Value) (l : List Fld) (b : List UInt8) (w : World) (Ha : RdF w va l) (Ha' : RdF w va' l) (Hb : RdB w vb b) (Hb' : RdB w vb' b) :
    Calls Tryz.prog 17 #[.agg #[.int .i64 n, .string r, .int .i64 m, va, vb], .agg #[.int .i64 n, .string r, .int .i64 m, va', vb']] w fun e w' => e = .returned (.bool true) ∧ Below w.heap.size w w' := by
  have HB0 := ((Below.refl w.heap.size w).alloc (Nat.le_refl _) (.cells #[.int .i64 n, .string r, .int .i64 m, va, vb] 55)).alloc (by simp) (.cells #[.int .i64 n, .string r, .int .i64 m, va', vb'] 55)
  have e1 : (n == n) = true := by simp
  have e2 : (r.toList == r.toList) = true := by simp
  have e3 : (m == m) = true := by simp
  go_enter Tryz.func17, Tryz.ntmps17
  go_wp2_with fail
  refine (sameF_calls va va' l _ (Ha.below HB0) (Ha'.below HB0)).mono ?_
  rintro e w1 ⟨rfl, hb⟩
  have d0 : w1.cell? ⟨w.heap.size, 4, none⟩ = some vb := (keptN (kept_below hb) 4).1
  have d1 : w1.cell? ⟨w.heap.size + 1, 4, none⟩ = some vb' := (keptM hb 4).1
  have HB1 := Below.self_trans HB0 hb
  obtain ⟨ab, cb, rfl, h1, h2, h3, hc⟩ := Hb.below HB1
  obtain ⟨ab2, cb2, rfl, h12, h22, h32, hc2⟩ := Hb'.below HB1
  clear hb
  go_wp2_with (first
    | (refine wpList_bytesstr rfl 33 9 _ rfl _ _ _ rfl 5 Tryz.underlying33 Tryz.underlying5 Tryz.underlying9 b rfl hc ?_)
    | (refine wpList_bytesstr rfl 33 9 _ rfl _ _ _ rfl 5 Tryz.underlying33 Tryz.underlying5 Tryz.underlying9 b rfl hc2 ?_))
  go_ret
  exact ⟨rfl, HB1⟩
end Go.Proofs.YtfmokccoilgpmaaGreatDoor
