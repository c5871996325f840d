/- canarymade.Source: Bytes and ID. -/
import Derived.Test.YtglljdhhgmgbgaaDoorSrcX
import Derived.Test.YtglljdhhgmgbgaaDoorNewID
namespace Go.Proofs.YtglljdhhgmgbgaaDoor
open Go.RowKit Go.Own
set_option linter.unusedVariables false
set_option maxHeartbeats 1000000


/-- a slice of bytes, made by the call: it is owned -/
def OwnY (B : Nat) (w : World) (v : Value) (l : List UInt8) : Prop := w.ownsRow B 5 1 v l.length (bytesV l)
theorem OwnY.rd {B : Nat} {w : World} {v : Value} {l : List UInt8} (h : OwnY B w v l) : RdB w v l := Rd_owned h
theorem OwnY.snoc {B : Nat} {w : World} {v : Value} {l : List UInt8} {c : UInt8} (h : w.ownsRow B 5 1 v (l.length + 1) (bytesV l ++ [.int .u8 (c.toNat : Int)])) : OwnY B w v (l ++ [c]) := by
  have e1 : (l ++ [c]).length = l.length + 1 := by simp
  have e2 : bytesV (l ++ [c]) = bytesV l ++ [.int .u8 (c.toNat : Int)] := by simp [bytesV, byteV]
  rw [OwnY, e1, e2]; exact h
def lettersB : ByteArray := ⟨#[97, 98, 13, 10, 48, 59, 32]⟩
theorem letters_at (k : Nat) (h : k < 7) : ∃ c : UInt8, (lettersB[k]'(by show k < 7; exact h)) = c := ⟨_, rfl⟩



end Go.Proofs.YtglljdhhgmgbgaaDoor