/- canarylaw06.fields and name: their walks. -/
import Derived.Test.YtfmokccoilgpmaaGreatDoorL06
namespace Go.Proofs.YtfmokccoilgpmaaGreatDoor
open Go.RowKit Go.Own
set_option linter.unusedVariables false
set_option maxHeartbeats 1000000

def fsize (l : List Fld) : Nat := (l.map fun f => f.name.size + f.val.size + 2).sum
theorem fsize_mem {l : List Fld} {f : Fld} (h : f ∈ l) : f.name.size + f.val.size + 2 ≤ fsize l := by
  induction l with
  | nil => cases h
  | cons g l ih =>
    unfold fsize at ih ⊢
    rw [List.map_cons, List.sum_cons]
    rcases List.mem_cons.1 h with rfl | h
    · omega
    · have := ih h; omega
theorem fsize_length (l : List Fld) : 2 * l.length ≤ fsize l := by
  induction l with
  | nil => exact Nat.zero_le _
  | cons g l ih => unfold fsize at ih ⊢; rw [List.map_cons, List.sum_cons, List.length_cons]; omega
theorem fsize_take (l : List Fld) (n : Nat) : fsize (l.take n) ≤ fsize l := by
  induction l generalizing n with
  | nil => rw [List.take_nil]; exact Nat.le_refl _
  | cons g l ih =>
    cases n with
    | zero => exact Nat.zero_le _
    | succ n => have := ih n; unfold fsize at this ⊢; rw [List.take_succ_cons, List.map_cons, List.sum_cons, List.map_cons, List.sum_cons]; omega
theorem fsize_made (l : List Fld) (h : ∀ f ∈ l, MadeF f) : fsize l ≤ 45 * l.length := by
  induction l with
  | nil => exact Nat.le_refl _
  | cons g l ih =>
    have h1 := h g (List.mem_cons_self ..)
    have := ih fun f hf => h f (List.mem_cons_of_mem _ hf)
    unfold fsize at this ⊢
    rw [List.map_cons, List.sum_cons, List.length_cons]
    have := h1.2.1
    have := h1.2.2.1
    omega
theorem rdf_take {w : World} {a : Option Addr} {l : List Fld} {cap : Nat} (n : Nat) (hn : n ≤ l.length) (hc : RdC w a (fieldsV l)) (h1 : l.length ≤ cap) (h2 : cap ≤ maxLen) (h3 : a = none → cap = 0) : RdF w (.slice a n cap) (l.take n) := by
  have e : (l.take n).length = n := by rw [List.length_take]; omega
  refine ⟨a, cap, by rw [e], by rw [e]; omega, h2, h3, ?_⟩
  intro k hk
  have hlen := fieldsV_length (l.take n)
  have hlen2 := fieldsV_length l
  rw [hlen, e] at hk
  obtain ⟨b, off, ha, hx⟩ := hc k (by omega)
  refine ⟨b, off, ha, hx.trans ?_⟩
  have hsp : fieldsV l = fieldsV (l.take n) ++ fieldsV (l.drop n) := by rw [← fieldsV_append, List.take_append_drop]
  have : (fieldsV l)[k]? = (fieldsV (l.take n))[k]? := by rw [hsp, List.getElem?_append_left (by omega)]
  rw [List.getElem?_eq_getElem (by omega), List.getElem?_eq_getElem (by omega)] at this
  exact this



end Go.Proofs.YtfmokccoilgpmaaGreatDoor