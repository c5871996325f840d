/- package number: Decimal alone (Number holds it too: never import both). -/
import Derived.Test.YtfmokccoilgpmaaGreatDoorNewID
import Derived.Test.YtfmokccoilgpmaaGreatDoorShelf
import Derived.Test.YtfmokccoilgpmaaGreatDoorPB
import Derived.Laws.BitsAllLaws
import Derived.Lib.AppendIntMem
namespace Go.Proofs.YtfmokccoilgpmaaGreatDoor
open Go.RowKit Go.Own
set_option linter.unusedVariables false
set_option maxHeartbeats 1000000

theorem format10_calls (n : Nat) (w : World) (hE : EnvP w) (hn : n ≤ 9223372036854775807) :
    Calls Tryz.prog 82 #[.int .i64 (n : Int), .int .i64 10] w fun e w' => e = .returned (.string (bs (digs 10 n))) ∧ Below w.heap.size w w' := by
  have h0 : ¬ ((n : Int) < 0) := by omega
  have HT := Lib.hid (show (⟨(Lib.itoa (n : Int)).toArray⟩ : ByteArray) = bs (digs 10 n) by unfold Lib.itoa; rw [if_neg h0, Int.toNat_natCast, digs_ten]; rfl)
  go_enter Tryz.func82, Tryz.ntmps82
  go_wp2_with fail
  refine (Tryz.strconv_FormatInt_10 (n : Int) (by omega) (by omega) _ hE.pow).mono ?_
  rintro e w1 ⟨rfl, k, os, rfl⟩
  rw [HT.out]
  have hb := Lib.below_grow w.heap.size w (Nat.le_refl _) k os
  generalize Go.Sort.grow (w.drewN k) os = w1 at hb ⊢
  go_wp2
  go_ret
  exact ⟨rfl, hb⟩

theorem decimal_calls (n : Nat) (m : Int) (w : World) (hE : EnvP w) (hm : m = n) (hn : n ≤ 9223372036854775807) :
    Calls Tryz.prog 60 #[.int .i64 m] w fun e w' => e = .returned (.string (bs (digs 10 n))) ∧ Below w.heap.size w w' := by
  subst hm
  go_enter Tryz.func60, Tryz.ntmps60
  go_wp2_with fail
  refine (format10_calls n _ hE hn).mono ?_
  rintro e w1 ⟨rfl, hb⟩
  go_wp2
  go_ret
  exact ⟨rfl, hb⟩
end Go.Proofs.YtfmokccoilgpmaaGreatDoor
