/- List of package ascii and of its reference; Same. -/
import Derived.Test.YtfmokccoilgpmaaGreatDoorSplit
namespace Go.Proofs.YtfmokccoilgpmaaGreatDoor
open Go.RowKit Go.Own
set_option linter.unusedVariables false

theorem OwnS.cast {B : Nat} {w : World} {v : Value} {l m : List ByteArray} (h : OwnS B w v l) (e : l = m) : OwnS B w v m := e ▸ h





end Go.Proofs.YtfmokccoilgpmaaGreatDoor
