/- SameFields, InFold, Without and With of package field and of its reference. -/
import Derived.Test.YtfmokccoilgpmaaGreatDoorN06
import Derived.Deep.RegionHeld3
namespace Go.Proofs.YtfmokccoilgpmaaGreatDoor
open Go.RowKit Go.Own
set_option linter.unusedVariables false
set_option maxHeartbeats 1000000

theorem sameF_calls (va vb : Value) (l : List Fld) (w : World) (Ha : RdF w va l) (Hb : RdF w vb l) :
    Calls Tryz.prog 38 #[va, vb] w fun e w' => e = .returned (.bool true) ∧ Below w.heap.size w w' := by
  obtain ⟨a, cap, rfl, hlc, hcm, -, hc⟩ := Ha
  obtain ⟨a2, cap2, rfl, hlc2, hcm2, -, hc2⟩ := Hb
  unfold maxLen at hcm hcm2
  go_enter Tryz.func38, Tryz.ntmps38
  go_wp2
  go_loopw [5] (fun i wr => ∃ k : Nat, k ≤ l.length ∧ i = .int .i64 k ∧ Below w.heap.size w wr) (fun i _ => l.length - (intOf i).toNat)
  case atStart => exact ⟨0, Nat.zero_le _, rfl, Below.refl _ _⟩
  case round =>
    obtain ⟨k, hk, rfl, hb⟩ := hrel
    by_cases hlt : k < l.length
    · obtain ⟨b, off, rfl, hcell, hcell'⟩ := (hc.below hb).fld k hlt
      obtain ⟨b2, off2, rfl, hcell2, hcell2'⟩ := (hc2.below hb).fld k hlt
      have hki : (k : Int) < (l.length : Int) := by omega
      clear hc hc2
      go_wp2
      go_quiet (fail)
      go_wp2
      go_roundw
      case rel => exact ⟨k + 1, by omega, by go_num, below_drewN hb _⟩
      case measure => simp [intOf]; omega
    · clear hc hc2
      go_wp2
      go_ret
      exact ⟨rfl, hb⟩

theorem foldB_comm (a b : ByteArray) : foldB a b = foldB b a := by
  unfold foldB
  rw [Bool.eq_iff_iff, seq_iff, seq_iff]
  exact ⟨Eq.symm, Eq.symm⟩

def inFold (l : List ByteArray) (s : ByteArray) : Bool := l.any fun x => foldB x s
theorem inFold_at (l : List ByteArray) (s : ByteArray) (k : Nat) (h : k < l.length) (he : foldB l[k] s = true) : inFold l s = true := List.any_eq_true.2 ⟨_, List.getElem_mem h, he⟩
theorem inFold_none (l : List ByteArray) (s : ByteArray) (h : ∀ k (h : k < l.length), foldB l[k] s = false) : inFold l s = false := by
  rw [inFold, List.any_eq_false]
  intro x hx
  obtain ⟨k, hk, rfl⟩ := List.getElem_of_mem hx
  rw [h k hk]; decide



def withoutS (l : List Fld) (names : List ByteArray) : List Fld := l.filter fun f => !inFold names f.name
theorem withoutS_take (l : List Fld) (names : List ByteArray) (k : Nat) (hk : k < l.length) : withoutS (l.take (k + 1)) names = withoutS (l.take k) names ++ (if inFold names l[k].name then [] else [l[k]]) := by
  rw [withoutS, withoutS, List.take_succ_eq_append_getElem hk, List.filter_append]
  congr 1
  cases h : inFold names l[k].name <;> simp [h]



def anyIs (f : ByteArray) (l : List ByteArray) : Bool := l.any fun x => seq f (lowerB x)
theorem anyIs_fold (n : ByteArray) (l : List ByteArray) : anyIs (lowerB n) l = inFold l n := by
  unfold anyIs inFold
  congr 1
  funext x
  exact foldB_comm n x
theorem anyIs_at (f : ByteArray) (l : List ByteArray) (k : Nat) (h : k < l.length) (he : seq f (lowerB l[k]) = true) : anyIs f l = true := List.any_eq_true.2 ⟨_, List.getElem_mem h, he⟩
theorem anyIs_none (f : ByteArray) (l : List ByteArray) (h : ∀ k (h : k < l.length), seq f (lowerB l[k]) = false) : anyIs f l = false := by
  rw [anyIs, List.any_eq_false]
  intro x hx
  obtain ⟨k, hk, rfl⟩ := List.getElem_of_mem hx
  rw [h k hk]; decide





end Go.Proofs.YtfmokccoilgpmaaGreatDoor