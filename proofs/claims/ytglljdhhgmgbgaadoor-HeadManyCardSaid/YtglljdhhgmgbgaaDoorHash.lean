/- The hash layer and its reference: what each function computes. -/
import Derived.Test.YtglljdhhgmgbgaaDoorRows
import Derived.Test.YtglljdhhgmgbgaaDoorLib
namespace Go.Proofs.YtglljdhhgmgbgaaDoor
open Go.RowKit Go.Own

/-- one byte more -/
def hstep (h : Int) (c : UInt8) : Int := IntKind.u64.wrap (bits BinOp.xor IntKind.u64 h (IntKind.u64.wrap (c.toNat : Int)) * 1099511628211)
def hrun (h : Int) (l : List UInt8) : Int := l.foldl hstep h
theorem hrun_append (h : Int) (l m : List UInt8) : hrun h (l ++ m) = hrun (hrun h l) m := List.foldl_append
theorem hrun_snoc (h : Int) (l : List UInt8) (k : Nat) (hk : k < l.length) : hrun h (l.take (k + 1)) = hstep (hrun h (l.take k)) l[k] := by
  rw [List.take_succ_eq_append_getElem hk, hrun_append]; rfl
def hstart : Int := 14695981039346656037
def hsum (l : List ByteArray) : Int := l.foldl (fun h s => hrun (hrun h s.data.toList) [0]) hstart
theorem hsum_snoc (l : List ByteArray) (k : Nat) (hk : k < l.length) : hsum (l.take (k + 1)) = hrun (hrun (hsum (l.take k)) l[k].data.toList) [0] := by
  unfold hsum
  rw [List.take_succ_eq_append_getElem hk, List.foldl_append]; rfl













end Go.Proofs.YtglljdhhgmgbgaaDoor
