/- cookie.Find, ID, Issue and their references. -/
import Derived.Test.YtkendcaldeabeaaDoorPairs
namespace Go.Proofs.YtkendcaldeabeaaDoor
open Go.RowKit Go.Own
set_option linter.unusedVariables false
set_option maxHeartbeats 1000000

/-- what first returns of a list of pairs -/
def foundV : Option Fld → Value
  | some f => .tuple #[.agg #[.string f.name, .string f.val], .bool true]
  | none => .tuple #[.agg #[.string ⟨#[]⟩, .string ⟨#[]⟩], .bool false]





/-- what Find returns -/
def findV : Option Fld → Value
  | some f => .tuple #[.string f.val, .bool true]
  | none => .tuple #[.string ⟨#[]⟩, .bool false]





/-! ### ID -/
theorem id1_calls (c : UInt8) (w : World) :
    Calls Tryd.prog 24 #[.int .u8 (c.toNat : Int)] w fun e w' => e = .returned (.bool (!hexc c)) ∧ w = w' := by
  go_enter Tryd.func24, Tryd.ntmps24
  by_cases h1 : c.toNat < 48
  · have e : hexc c = false := by simp [hexc, digitB]; omega
    have h2 : (c.toNat : Int) < 48 := by omega
    have h3 : (c.toNat : Int) < 97 := by omega
    rw [e]
    go_wp2
    go_ret
    exact ⟨rfl, rfl⟩
  · have h2 : ¬ (c.toNat : Int) < 48 := by omega
    by_cases h4 : c.toNat ≤ 57
    · have e : hexc c = true := by simp [hexc, digitB]; omega
      have h5 : ¬ (57 : Int) < (c.toNat : Int) := by omega
      rw [e]
      go_wp2
      go_ret
      exact ⟨rfl, rfl⟩
    · have h5 : (57 : Int) < (c.toNat : Int) := by omega
      by_cases h6 : c.toNat < 97
      · have e : hexc c = false := by simp [hexc, digitB]; omega
        have h7 : (c.toNat : Int) < 97 := by omega
        rw [e]
        go_wp2
        go_ret
        exact ⟨rfl, rfl⟩
      · have h7 : ¬ (c.toNat : Int) < 97 := by omega
        by_cases h8 : c.toNat ≤ 102
        · have e : hexc c = true := by simp [hexc, digitB]; omega
          have h9 : ¬ (102 : Int) < (c.toNat : Int) := by omega
          rw [e]
          go_wp2
          go_ret
          exact ⟨rfl, rfl⟩
        · have e : hexc c = false := by simp [hexc, digitB]; omega
          have h9 : (102 : Int) < (c.toNat : Int) := by omega
          rw [e]
          go_wp2
          go_ret
          exact ⟨rfl, rfl⟩

theorem firstB_calls (va : Value) (l : List UInt8) (w : World) (Ha : RdB w va l) :
    Calls Tryd.prog 23 #[va, .func (.func 24) #[] #[]] w fun e w' => (∃ c : Int, e = .returned (.tuple #[.int .u8 c, .bool (!l.all hexc)])) ∧ w = w' := by
  obtain ⟨a, cap, rfl, hlc, hcm, -, hc⟩ := Ha
  unfold maxLen at hcm
  go_enter Tryd.func23, Tryd.ntmps23
  go_wp2
  go_loop [11] (fun i => ∃ k : Nat, k ≤ l.length ∧ i = .int .i64 k ∧ Hid ((l.take k).all hexc = true)) (fun i => l.length - (intOf i).toNat)
  case atStart => exact ⟨0, Nat.zero_le _, rfl, Lib.hid rfl⟩
  case round =>
    obtain ⟨k, hk, rfl, HD⟩ := hrel
    by_cases hlt : k < l.length
    · obtain ⟨b, off, rfl, hcell⟩ := hc.byte k hlt
      have hki : (k : Int) < (l.length : Int) := by omega
      clear hc
      cases hs : hexc l[k] with
      | true =>
        have HF := Lib.hid (all_take_succ l k hlt HD.out hs)
        go_wp2_with fail
        refine (id1_calls l[k] _).mono ?_
        rintro e w1 ⟨rfl, rfl⟩
        rw [hs]
        go_wp2
        go_round
        case rel => exact ⟨k + 1, by omega, by go_num, HF⟩
        case measure => simp [intOf]; omega
      | false =>
        have HF := Lib.hid (all_fails l k hlt hs)
        go_wp2_with fail
        refine (id1_calls l[k] _).mono ?_
        rintro e w1 ⟨rfl, rfl⟩
        rw [hs]
        go_wp2
        go_ret2
        exact ⟨⟨_, by rw [HF.out]; rfl⟩, rfl⟩
    · have HF := Lib.hid (all_full l k (by omega) HD.out)
      clear hc
      go_wp2
      go_ret2
      exact ⟨⟨_, by rw [HF.out]; rfl⟩, rfl⟩

theorem cid_calls (s : ByteArray) (w : World) (hs : s.size ≤ maxLen) :
    Calls Tryd.prog 16 #[.string s] w fun e w' => e = .returned (.bool (idB s)) ∧ Below w.heap.size w w' := by
  go_enter Tryd.func16, Tryd.ntmps16
  go_wp2_with (refine wpList_strbytes rfl 9 40 _ rfl _ rfl 5 Tryd.underlying9 Tryd.underlying40 Tryd.underlying5 ?_ hs)
  intro ad cap w1 hb1 hc1 hc2 hr
  have hrd : RdB w1 (.slice (some ad) s.size cap) (bl s) := RdB_of (bl_length s).symm hc1 hc2 (fun h => nomatch h) hr
  have HI := Lib.hid (show idB s = ((bl s).all hexc && s.size == 16) from rfl)
  clear hr hc1 hc2
  go_wp2_with fail
  refine (firstB_calls _ (bl s) _ hrd).mono ?_
  rintro e w2 ⟨⟨c, rfl⟩, rfl⟩
  clear hrd
  generalize hq : (bl s).all hexc = q
  have HQ := Lib.hid hq
  clear hq
  by_cases h16 : s.size = 16
  · have hz : ((s.size : Int) == 16) = true := by rw [beq_iff_eq]; omega
    have HZ := Lib.hid (show idB s = q by rw [HI.out, HQ.out, beq_iff_eq.2 h16, Bool.and_true])
    clear h16
    cases q
    all_goals
      go_wp2
      go_ret
      exact ⟨by rw [HZ.out]; rfl, hb1⟩
  · have hz : ((s.size : Int) == 16) = false := by rw [beq_eq_false_iff_ne]; omega
    have HZ := Lib.hid (show idB s = false by rw [HI.out, beq_eq_false_iff_ne.2 h16, Bool.and_false])
    clear h16
    cases q
    all_goals
      go_wp2
      go_ret
      exact ⟨by rw [HZ.out]; rfl, hb1⟩



end Go.Proofs.YtkendcaldeabeaaDoor