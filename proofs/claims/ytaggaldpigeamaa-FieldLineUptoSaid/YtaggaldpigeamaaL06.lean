/- The layer-06 law package's own functions and Has: their walks. -/
import Derived.Test.YtaggaldpigeamaaValues
import Derived.Test.YtaggaldpigeamaaSource
namespace Go.Proofs.Ytaggaldpigeamaa
open Go.RowKit Go.Own
set_option linter.unusedVariables false
set_option maxHeartbeats 1000000

def hasF (l : List Fld) (name : ByteArray) : Bool := !(valuesS l name).isEmpty
theorem hasF_pos {l : List Fld} {name : ByteArray} : decide (0 < (valuesS l name).length) = hasF l name := by
  unfold hasF
  cases valuesS l name <;> simp

theorem has_calls (va : Value) (l : List Fld) (name : ByteArray) (w : World) (Ha : RdF w va l) (hl : l.length ≤ 1000000) (hn : name.size ≤ maxLen) (hf : ∀ f ∈ l, f.name.size ≤ maxLen) :
    Calls Try.prog 23 #[va, .string name] w fun e w' => e = .returned (.bool (hasF l name)) ∧ Below w.heap.size w w' := by
  go_enter Try.func23, Try.ntmps23
  go_wp2_with fail
  refine (values_calls va l name _ Ha hl hn hf).mono ?_
  rintro e w1 ⟨⟨v, rfl, hown⟩, hb⟩
  obtain ⟨a0, c0, rfl, -, -, -⟩ := owned_slice hown
  have HH := Lib.hid (hasF_pos (l := l) (name := name))
  clear hown
  go_wp2
  go_ret
  exact ⟨ret_bool HH.out, hb⟩

theorem ap1 : parseV ⟨#[72, 111, 115, 116, 58, 32, 32, 97, 32]⟩ = .tuple #[.agg #[.string ⟨#[72, 111, 115, 116]⟩, .string ⟨#[97]⟩], .int .i64 0] := by
  have h : hasB (bl (⟨#[72, 111, 115, 116, 58, 32, 32, 97, 32]⟩ : ByteArray)) 58 = true := by decide +kernel
  rw [parseV_some h, if_pos (by decide +kernel)]
  have e1 : bs (before 58 (bl (⟨#[72, 111, 115, 116, 58, 32, 32, 97, 32]⟩ : ByteArray))) = ⟨#[72, 111, 115, 116]⟩ := by decide +kernel
  have e2 : trimB (bs (behind 58 (bl (⟨#[72, 111, 115, 116, 58, 32, 32, 97, 32]⟩ : ByteArray)))) = ⟨#[97]⟩ := by decide +kernel
  rw [e1, e2]
theorem ap2 : parseV ⟨#[72, 111, 115, 116, 32, 58, 32, 97]⟩ = .tuple #[.agg #[.string .empty, .string .empty], .int .i64 2] := by
  have h : hasB (bl (⟨#[72, 111, 115, 116, 32, 58, 32, 97]⟩ : ByteArray)) 58 = true := by decide +kernel
  rw [parseV_some h, if_neg (by decide +kernel)]
theorem ap3 : hasF [⟨⟨#[72, 111, 115, 116]⟩, ⟨#[97]⟩⟩] ⟨#[72, 79, 83, 84]⟩ = true := by decide +kernel

theorem rdf_new' (w : World) (l : List Fld) (cs : Array Value) (n k : Nat) (hcs : cs = (fieldsV l).toArray) (hn : n = w.heap.size) (hk : k = l.length) (hl : l.length ≤ 1000000) : RdF (w.alloc (.cells cs 26)) (.slice (some ⟨n, 0, none⟩) k k) l := by
  subst hcs hn hk
  exact ⟨_, _, rfl, Nat.le_refl _, by simp [maxLen]; omega, (fun h => nomatch h), RdC_new w (fieldsV l) 26 (0, 0)⟩

theorem awake06_calls (w : World) (hE : Env w) : Calls Try.prog 13 #[] w fun e w' => e = .returned (.bool true) ∧ Below w.heap.size w w' := by
  go_enter Try.func13, Try.ntmps13
  go_wp2_with fail
  have hw1 : [(⟨⟨#[72, 111, 115, 116]⟩, ⟨#[97]⟩⟩ : Fld)].length ≤ 1000000 := by decide
  have hw2 : (⟨#[72, 79, 83, 84]⟩ : ByteArray).size ≤ maxLen := by decide
  have hw3 : ∀ f ∈ [(⟨⟨#[72, 111, 115, 116]⟩, ⟨#[97]⟩⟩ : Fld)], f.name.size ≤ maxLen := by intro f hf; rw [List.mem_singleton] at hf; subst hf; decide
  refine (fparse_calls _ _ hE (by decide)).mono ?_
  rintro e w1 ⟨rfl, hb1⟩
  rw [ap1]
  have hE1 := hE.below hb1
  go_wp2_with fail
  refine (fparse_calls _ _ (hE1.below ((Below.refl _ _).alloc (Nat.le_refl _) _)) (by decide)).mono ?_
  rintro e w2 ⟨rfl, hb2⟩
  rw [ap2]
  have k0 := (keptN hb2 0).1
  have k1 := (keptN hb2 1).1
  have hbw := kept_below hb2
  have HB2 := Below.self_trans hb1 hbw
  have hlt2 := kept_lt hb2
  clear hb2 hbw hb1
  go_wp2_with fail
  have hr := rdf_new' (w2.alloc (.cells #[.string ByteArray.empty, .string ByteArray.empty] 26)) [⟨⟨#[72, 111, 115, 116]⟩, ⟨#[97]⟩⟩] #[.string ⟨#[72, 111, 115, 116]⟩, .string ⟨#[97]⟩] (w2.heap.size + 1) 1 rfl (by simp) rfl (by decide)
  refine (has_calls _ [⟨⟨#[72, 111, 115, 116]⟩, ⟨#[97]⟩⟩] _ _ hr hw1 hw2 hw3).mono ?_
  rintro e w3 ⟨rfl, hb3⟩
  rw [ap3]
  have HB3 := Below.self_trans HB2 (kept_below (kept_below hb3))
  clear hb3
  clear k0 k1
  go_wp2
  go_ret
  exact ⟨rfl, HB3⟩

theorem short_calls (a : Option Addr) (n cap : Nat) (m : Nat) (w : World) (h1 : n ≤ cap) (h2 : cap ≤ 9223372036854775807) (hm : m ≤ 9223372036854775807) :
    Calls Try.prog 7 #[.slice a n cap, .int .i64 m] w fun e w' => e = .returned (.slice a (min n m) cap) ∧ w' = w := by
  go_enter Try.func7, Try.ntmps7
  by_cases hnm : m < n
  · have hlt : (m : Int) < (n : Int) := by omega
    have e : min n m = m := Nat.min_eq_right (by omega)
    rw [e]
    go_wp2
    go_ret
    exact ⟨rfl, rfl⟩
  · have hlt : ¬ (m : Int) < (n : Int) := by omega
    have e : min n m = n := Nat.min_eq_left (by omega)
    rw [e]
    go_wp2
    go_ret
    exact ⟨rfl, rfl⟩
end Go.Proofs.Ytaggaldpigeamaa
