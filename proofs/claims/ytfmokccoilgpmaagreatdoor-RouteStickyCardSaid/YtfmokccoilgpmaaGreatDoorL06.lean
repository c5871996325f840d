/- The layer-06 law package's own functions and Has: their walks. -/
import Derived.Test.YtfmokccoilgpmaaGreatDoorValues
import Derived.Test.YtfmokccoilgpmaaGreatDoorSource
namespace Go.Proofs.YtfmokccoilgpmaaGreatDoor
open Go.RowKit Go.Own
set_option linter.unusedVariables false
set_option maxHeartbeats 1000000

def hasF (l : List Fld) (name : ByteArray) : Bool := !(valuesS l name).isEmpty
theorem hasF_pos {l : List Fld} {name : ByteArray} : decide (0 < (valuesS l name).length) = hasF l name := by
  unfold hasF
  cases valuesS l name <;> simp



theorem ap1 : parseV ⟨#[72, 111, 115, 116, 58, 32, 32, 97, 32]⟩ = .tuple #[.agg #[.string ⟨#[72, 111, 115, 116]⟩, .string ⟨#[97]⟩], .int .i64 0] := by
  have h : hasB (bl (⟨#[72, 111, 115, 116, 58, 32, 32, 97, 32]⟩ : ByteArray)) 58 = true := by decide +kernel
  rw [parseV_some h, if_pos (by decide +kernel)]
  have e1 : bs (before 58 (bl (⟨#[72, 111, 115, 116, 58, 32, 32, 97, 32]⟩ : ByteArray))) = ⟨#[72, 111, 115, 116]⟩ := by decide +kernel
  have e2 : trimB (bs (behind 58 (bl (⟨#[72, 111, 115, 116, 58, 32, 32, 97, 32]⟩ : ByteArray)))) = ⟨#[97]⟩ := by decide +kernel
  rw [e1, e2]
theorem ap2 : parseV ⟨#[72, 111, 115, 116, 32, 58, 32, 97]⟩ = .tuple #[.agg #[.string .empty, .string .empty], .int .i64 2] := by
  have h : hasB (bl (⟨#[72, 111, 115, 116, 32, 58, 32, 97]⟩ : ByteArray)) 58 = true := by decide +kernel
  rw [parseV_some h, if_neg (by decide +kernel)]
theorem ap3 : hasF [⟨⟨#[72, 111, 115, 116]⟩, ⟨#[97]⟩⟩] ⟨#[72, 79, 83, 84]⟩ = true := by decide +kernel

theorem rdf_new' (w : World) (l : List Fld) (cs : Array Value) (n k : Nat) (hcs : cs = (fieldsV l).toArray) (hn : n = w.heap.size) (hk : k = l.length) (hl : l.length ≤ 1000000) : RdF (w.alloc (.cells cs 45)) (.slice (some ⟨n, 0, none⟩) k k) l := by
  subst hcs hn hk
  exact ⟨_, _, rfl, Nat.le_refl _, by simp [maxLen]; omega, (fun h => nomatch h), RdC_new w (fieldsV l) 45 (0, 0)⟩



end Go.Proofs.YtfmokccoilgpmaaGreatDoor