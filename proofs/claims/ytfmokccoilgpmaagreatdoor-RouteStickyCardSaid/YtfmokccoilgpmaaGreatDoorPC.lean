/- Plain laws on plans of rollouts. No program stands here. plans: package plan and the reference's. plans: the reference's Plan, StageWeight. plans: Validate, Weight, StageWeight; the weight of a rollout, of both. -/
import Derived.Test.YtfmokccoilgpmaaGreatDoorSource
import Derived.BigQuiet
import Derived.Deep.DeepCutAuto
import Derived.Deep.CutBlock
import Derived.Test.YtfmokccoilgpmaaGreatDoorLineR
/-! Plain laws on plans of rollouts. No program stands here. -/
namespace Go.Own
open Go.Proofs.YtfmokccoilgpmaaGreatDoor
set_option linter.unusedVariables false

def inB (n lo hi : Int) : Bool := decide (lo ≤ n) && decide (n ≤ hi)
/-- the weight at place k is in order -/
def wOk (l : List Int) (k : Nat) : Bool := inB (l.getD k 0) 1 10000 && (decide (k = 0) || decide (l.getD (k - 1) 0 < l.getD k 0))
def wAll (l : List Int) (k : Nat) : Bool := (List.range k).all (wOk l)
def weightsB (l : List Int) : Bool := wAll l l.length && inB (l.length : Int) 1 8
theorem wAll_succ (l : List Int) (k : Nat) : wAll l (k + 1) = (wAll l k && wOk l k) := by
  unfold wAll; rw [List.range_succ, List.all_append]; simp
theorem wAll_no {l : List Int} {k n : Nat} (hk : k < n) (h : wOk l k = false) : wAll l n = false := by
  unfold wAll; rw [List.all_eq_false]; exact ⟨k, List.mem_range.2 hk, by simp [h]⟩
/-- what a plan is -/
structure Pl where
  ws : List Int
  ms : Int
  num : Int
  den : Int
  hold : Int
  win : Int
def planB (p : Pl) : Bool := weightsB p.ws && (inB p.ms 1 1000000 && (inB p.num 0 1000000 && (inB p.den 1 1000000 && (inB p.hold 1 100 && inB p.win 1 1000000))))
def planE (p : Pl) : Int := if planB p then 0 else 8
def planW (p : Pl) (s : Int) : Int := if planB p && (decide (0 ≤ s) && decide (s < p.ws.length)) then p.ws.getD s.toNat 0 else 0
/-- the weight of a rollout -/
def rollW (st sg : Int) (p : Pl) : Int := if st == 1 || st == 4 then planW p sg else if st == 2 then 10000 else 0
/-- a plan's value -/
def Pl.agg (p : Pl) (v : Value) : Value := .agg #[v, .int .i64 p.ms, .int .i64 p.num, .int .i64 p.den, .int .i64 p.hold, .int .i64 p.win]
def PlV (w : World) (v : Value) (p : Pl) : Prop := ∃ vw, v = p.agg vw ∧ RdI w vw p.ws
theorem PlV.below {w w' : World} {v : Value} {p : Pl} (h : PlV w v p) (hb : Go.RowKit.Below w.heap.size w w') : PlV w' v p := by
  obtain ⟨vw, h1, h2⟩ := h
  exact ⟨vw, h1, h2.below hb⟩
end Go.Own

/-! plans: package plan and the reference's. -/
namespace Go.Proofs.YtfmokccoilgpmaaGreatDoor
open Go.RowKit Go.Own
set_option linter.unusedVariables false
set_option maxHeartbeats 1000000

theorem pwithin_calls (n lo hi : Int) (w : World) :
    Calls Tryz.prog 91 #[.int .i64 n, .int .i64 lo, .int .i64 hi] w fun e w' => e = .returned (.bool (inB n lo hi)) ∧ w = w' := by
  unfold inB
  go_enter Tryz.func91, Tryz.ntmps91
  by_cases h1 : lo ≤ n
  · by_cases h2 : n ≤ hi
    · rw [decide_eq_true h1, decide_eq_true h2]
      go_wp2
      go_ret
      exact ⟨rfl, rfl⟩
    · rw [decide_eq_true h1, decide_eq_false h2]
      go_wp2
      go_ret
      exact ⟨rfl, rfl⟩
  · rw [decide_eq_false h1, Bool.false_and]
    go_wp2
    go_ret
    exact ⟨rfl, rfl⟩

/-- the facts on place k of the weights -/
theorem wOk_cases {l : List Int} {k : Nat} (hk : k < l.length) :
    wOk l k = (inB l[k] 1 10000 && (decide (k = 0) || decide (l[k - 1] < l[k]))) := by
  unfold wOk
  rw [List.getD_eq_getElem?_getD, List.getD_eq_getElem?_getD, List.getElem?_eq_getElem hk, List.getElem?_eq_getElem (by omega)]
  rfl

theorem weights_calls (v : Value) (l : List Int) (w : World) (h : RdI w v l) :
    Calls Tryz.prog 90 #[v] w fun e w' => e = .returned (.bool (weightsB l)) ∧ w = w' := by
  obtain ⟨⟨a, cap, rfl, h1, h2, h3, hc⟩, -⟩ := h
  have hlm : l.length ≤ 9223372036854775807 := by unfold maxLen at h2; omega
  have HC := Lib.hid hc
  clear hc
  go_enter Tryz.func90, Tryz.ntmps90
  go_wp2
  go_loopw [8] (fun i wr => ∃ k : Nat, k ≤ l.length ∧ i = .int .i64 (k : Int) ∧ Hid (wAll l k = true) ∧ w = wr) (fun i _ => l.length - (intOf i).toNat)
  case atStart => exact ⟨0, Nat.zero_le _, rfl, Lib.hid rfl, rfl⟩
  case round =>
    obtain ⟨k, hk, rfl, HW, rfl⟩ := hrel
    by_cases hlt : k < l.length
    · have hltI : (k : Int) < (l.length : Int) := by omega
      obtain ⟨b, off, rfl, c0⟩ := rdc_int HC.out k hlt
      have HD := Lib.hid (wOk_cases hlt)
      have hkc : (k : Int) ≤ (cap : Int) := by omega
      by_cases hin : inB l[k] 1 10000 = true
      · have HIN := Lib.hid hin
        by_cases hk0 : k = 0
        · subst hk0
          have HN := Lib.hid (show wAll l (0 + 1) = true by rw [wAll_succ, HW.out, HD.out, hin]; rfl)
          clear hin
          rw [Nat.add_zero] at c0
          go_wp2_with fail
          refine (pwithin_calls _ _ _ _).mono ?_
          rintro e w1 ⟨rfl, rfl⟩
          rw [HIN.out]
          go_wp2
          go_roundw
          case rel => exact ⟨1, by omega, rfl, HN, trivial⟩
          case measure => simp [intOf]; omega
        · obtain ⟨j, rfl⟩ : ∃ j, k = j + 1 := ⟨k - 1, by omega⟩
          obtain ⟨b2, off2, he, c1⟩ := rdc_int HC.out j (by omega)
          simp only [Option.some.injEq, Addr.mk.injEq] at he
          obtain ⟨rfl, rfl, -⟩ := he
          have hjI : ((j + 1 : Nat) : Int) - 1 = (j : Int) := by omega
          by_cases hd : l[j] < l[j + 1]
          · have HN := Lib.hid (show wAll l (j + 1 + 1) = true by rw [wAll_succ, HW.out, HD.out, hin]; simp [hd])
            have hd' : decide (l[j + 1] ≤ l[j]) = false := by rw [decide_eq_false_iff_not]; omega
            clear hin hd
            go_wp2_with fail
            refine (pwithin_calls _ _ _ _).mono ?_
            rintro e w1 ⟨rfl, rfl⟩
            rw [HIN.out]
            go_wp2
            go_roundw
            case rel => exact ⟨j + 1 + 1, by omega, rfl, HN, trivial⟩
            case measure => simp [intOf]; omega
          · have HN := Lib.hid (show weightsB l = false by unfold weightsB; rw [wAll_no hlt (by rw [HD.out, hin]; simp [hd]), Bool.false_and])
            have hd' : decide (l[j + 1] ≤ l[j]) = true := by rw [decide_eq_true_eq]; omega
            clear hin hd
            go_wp2_with fail
            refine (pwithin_calls _ _ _ _).mono ?_
            rintro e w1 ⟨rfl, rfl⟩
            rw [HIN.out]
            go_wp2
            go_ret
            exact ⟨ret_bool HN.out.symm, rfl⟩
      · have hin' : inB l[k] 1 10000 = false := by simpa using hin
        have HIN := Lib.hid hin'
        have HN := Lib.hid (show weightsB l = false by unfold weightsB; rw [wAll_no hlt (by rw [HD.out, hin', Bool.false_and]), Bool.false_and])
        clear hin hin'
        go_wp2_with fail
        refine (pwithin_calls _ _ _ _).mono ?_
        rintro e w1 ⟨rfl, rfl⟩
        rw [HIN.out]
        go_wp2
        go_ret
        exact ⟨ret_bool HN.out.symm, rfl⟩
    · have hltI : ¬ (k : Int) < (l.length : Int) := by omega
      have hke : k = l.length := by omega
      subst hke
      go_wp2_with fail
      refine (pwithin_calls _ _ _ _).mono ?_
      rintro e w1 ⟨rfl, rfl⟩
      go_wp2
      go_ret
      exact ⟨ret_bool (by unfold weightsB; rw [HW.out, Bool.true_and]), rfl⟩
end Go.Proofs.YtfmokccoilgpmaaGreatDoor

/-! plans: the reference's Plan, StageWeight. -/
namespace Go.Proofs.YtfmokccoilgpmaaGreatDoor
open Go.RowKit Go.Own
set_option linter.unusedVariables false
set_option maxHeartbeats 1000000
set_option maxRecDepth 20000

def headB (n ms num den hold win : Int) : Bool :=
  inB n 1 8 && (inB ms 1 1000000 && (inB num 0 1000000 && (inB den 1 1000000 && (inB hold 1 100 && inB win 1 1000000))))
theorem planB_head (ws : List Int) (ms num den hold win : Int) : planB ⟨ws, ms, num, den, hold, win⟩ = (headB ws.length ms num den hold win && wAll ws ws.length) := by
  unfold planB headB weightsB
  cases inB (ws.length : Int) 1 8 <;> cases wAll ws ws.length <;> simp

theorem refPlan_calls (p : Pl) (v : Value) (w : World) (h : PlV w v p) :
    Calls Tryz.prog 89 #[v] w fun e w' => e = .returned (.int .i64 (planE p)) ∧ Below w.heap.size w w' := by
  obtain ⟨ws, ms, num, den, hold, win⟩ := p
  obtain ⟨vw, rfl, hr⟩ := h
  unfold Pl.agg
  have HB := Lib.hid ((Below.refl w.heap.size w).alloc (Nat.le_refl _) (.cells #[vw, .int .i64 ms, .int .i64 num, .int .i64 den, .int .i64 hold, .int .i64 win] 25))
  have hr : RdI (w.alloc (.cells #[vw, .int .i64 ms, .int .i64 num, .int .i64 den, .int .i64 hold, .int .i64 win] 25)) vw ws := hr.below HB.out
  obtain ⟨⟨a, cap, rfl, h1, h2, h3, hc⟩, -⟩ := hr
  have hlm : ws.length ≤ 9223372036854775807 := by unfold maxLen at h2; omega
  have HC := Lib.hid hc
  clear hc
  have HE := Lib.hid (show planE ⟨ws, ms, num, den, hold, win⟩ = if (headB ws.length ms num den hold win && wAll ws ws.length) = true then 0 else 8 by rw [← planB_head]; rfl)
  generalize planE ⟨ws, ms, num, den, hold, win⟩ = E at *
  go_enter Tryz.func89, Tryz.ntmps89
  go_upto_region 1 with fail
  go_cut [1, 3] (fun s1 s3 wx => s1 = .pointer (some ⟨w.heap.size, 0, none⟩) ∧ s3 = .bool (headB ws.length ms num den hold win) ∧ wx = (w.alloc (.cells #[.slice a ws.length cap, .int .i64 ms, .int .i64 num, .int .i64 den, .int .i64 hold, .int .i64 win] 25)))
  case first =>
    go_wp2_with fail
    all_goals (go_meet; case rel => exact ⟨rfl, congrArg Value.bool (by unfold headB inB; first | (simp; done) | (simp; omega) | (simp_all; done) | (trace_state; fail)), rfl⟩)
  case rest =>
  obtain ⟨rfl, rfl, rfl⟩ := hcut
  have c0 : (w.alloc (.cells #[.slice a ws.length cap, .int .i64 ms, .int .i64 num, .int .i64 den, .int .i64 hold, .int .i64 win] 25)).cell? ⟨w.heap.size, 0, none⟩ = some (.slice a ws.length cap) := (keptN (Below.refl _ _) 0).1
  generalize (w.alloc (.cells #[.slice a ws.length cap, .int .i64 ms, .int .i64 num, .int .i64 den, .int .i64 hold, .int .i64 win] 25)) = w1 at *
  generalize headB ws.length ms num den hold win = H at *
  go_wp2
  go_loopw [3, 4] (fun s3 s4 wr => ∃ k : Nat, k ≤ ws.length ∧ s4 = .int .i64 (k : Int) ∧ s3 = .bool (H && wAll ws k) ∧ Below w1.heap.size w1 wr) (fun _ i _ => ws.length - (intOf i).toNat)
  case atStart => exact ⟨0, Nat.zero_le _, rfl, by rw [show wAll ws 0 = true from rfl, Bool.and_true], Below.refl _ _⟩
  case round =>
    obtain ⟨k, hk, rfl, rfl, hbw⟩ := hrel
    have HB2 := Lib.hid (Below.self_trans HB.out hbw)
    have HC := Lib.hid (HC.out.below hbw)
    have c0 := cell_below (p := ⟨w.heap.size, 0, none⟩) hbw c0
    have HW := Lib.hid hbw
    clear hbw
    by_cases hlt : k < ws.length
    · have hltI : (k : Int) < (ws.length : Int) := by omega
      obtain ⟨b, off, rfl, d0⟩ := rdc_int HC.out k hlt
      have HD := Lib.hid (wOk_cases hlt)
      have HS := Lib.hid (wAll_succ ws k)
      generalize hP : (H && wAll ws k) = P at *
      have HP := Lib.hid hP
      clear hP
      cases P with
      | false =>
        have HN := Lib.hid (show (H && wAll ws (k + 1)) = false by rw [HS.out, ← Bool.and_assoc, HP.out, Bool.false_and])
        go_wp2
        go_quiet (fail)
        go_wp2
        go_roundw
        case rel => exact ⟨k + 1, by omega, rfl, by rw [HN.out], Below.self_trans HW.out (below_drewN (Below.refl _ _) _)⟩
        case measure => simp [intOf]; omega
      | true =>
        have HN := Lib.hid (show (H && wAll ws (k + 1)) = wOk ws k by rw [HS.out, ← Bool.and_assoc, HP.out, Bool.true_and])
        generalize hx : ws[k] = x at *
        by_cases hk0 : k = 0
        · subst hk0
          rw [Nat.add_zero] at d0
          have HX := Lib.hid hx
          clear hx
          by_cases hx1 : 1 ≤ x
          · by_cases hx2 : x ≤ 10000
            · have HQ := Lib.hid (show wOk ws 0 = true by rw [HD.out]; simp [inB, hx1, hx2])
              have e1 : decide (1 ≤ x) = true := by simpa using hx1
              have e2 : decide (x ≤ 10000) = true := by simpa using hx2
              clear hx1 hx2
              go_wp2
              go_quiet (fail)
              go_wp2
              go_roundw
              case rel => exact ⟨1, by omega, rfl, by rw [HN.out, HQ.out], Below.self_trans HW.out (below_drewN (Below.refl _ _) _)⟩
              case measure => simp [intOf]; omega
            · have HQ := Lib.hid (show wOk ws 0 = false by rw [HD.out]; simp [inB, hx2])
              have e1 : decide (1 ≤ x) = true := by simpa using hx1
              have e2 : decide (x ≤ 10000) = false := by simpa using hx2
              clear hx1 hx2
              go_wp2
              go_quiet (fail)
              go_wp2
              go_roundw
              case rel => exact ⟨1, by omega, rfl, by rw [HN.out, HQ.out], Below.self_trans HW.out (below_drewN (Below.refl _ _) _)⟩
              case measure => simp [intOf]; omega
          · have HQ := Lib.hid (show wOk ws 0 = false by rw [HD.out]; simp [inB, hx1])
            have e1 : decide (1 ≤ x) = false := by simpa using hx1
            clear hx1
            go_wp2
            go_quiet (fail)
            go_wp2
            go_roundw
            case rel => exact ⟨1, by omega, rfl, by rw [HN.out, HQ.out], Below.self_trans HW.out (below_drewN (Below.refl _ _) _)⟩
            case measure => simp [intOf]; omega
        · obtain ⟨j, rfl⟩ : ∃ j, k = j + 1 := ⟨k - 1, by omega⟩
          have HX := Lib.hid hx
          clear hx
          obtain ⟨b2, off2, he, d1⟩ := rdc_int HC.out j (by omega)
          simp only [Option.some.injEq, Addr.mk.injEq] at he
          obtain ⟨rfl, rfl, -⟩ := he
          have hj0 : ((((j + 1 : Nat) : Int)) == 0) = false := by rw [beq_eq_false_iff_ne]; omega
          have hj1 : (((j : Int) + 1) == 0) = false := by rw [beq_eq_false_iff_ne]; omega
          have HJ := Lib.hid (show wOk ws (j + 1) = (inB x 1 10000 && decide (ws[j] < x)) by rw [HD.out]; simp)
          generalize ws[j] = y at *
          by_cases hx1 : 1 ≤ x
          · by_cases hx2 : x ≤ 10000
            · by_cases hxy : y < x
              · have HQ := Lib.hid (show wOk ws (j + 1) = true by rw [HJ.out]; simp [inB, hx1, hx2, hxy])
                have e1 : decide (1 ≤ x) = true := by simpa using hx1
                have e2 : decide (x ≤ 10000) = true := by simpa using hx2
                have e3 : decide (y < x) = true := by simpa using hxy
                clear hx1 hx2 hxy
                go_wp2
                go_quiet (fail)
                go_wp2
                go_roundw
                case rel => exact ⟨j + 1 + 1, by omega, rfl, by rw [HN.out, HQ.out], Below.self_trans HW.out (below_drewN (Below.refl _ _) _)⟩
                case measure => simp [intOf]; omega
              · have HQ := Lib.hid (show wOk ws (j + 1) = false by rw [HJ.out]; simp [hxy])
                have e1 : decide (1 ≤ x) = true := by simpa using hx1
                have e2 : decide (x ≤ 10000) = true := by simpa using hx2
                have e3 : decide (y < x) = false := by simpa using hxy
                clear hx1 hx2 hxy
                go_wp2
                go_quiet (fail)
                go_wp2
                go_roundw
                case rel => exact ⟨j + 1 + 1, by omega, rfl, by rw [HN.out, HQ.out], Below.self_trans HW.out (below_drewN (Below.refl _ _) _)⟩
                case measure => simp [intOf]; omega
            · have HQ := Lib.hid (show wOk ws (j + 1) = false by rw [HJ.out]; simp [inB, hx2])
              have e1 : decide (1 ≤ x) = true := by simpa using hx1
              have e2 : decide (x ≤ 10000) = false := by simpa using hx2
              clear hx1 hx2
              go_wp2
              go_quiet (fail)
              go_wp2
              go_roundw
              case rel => exact ⟨j + 1 + 1, by omega, rfl, by rw [HN.out, HQ.out], Below.self_trans HW.out (below_drewN (Below.refl _ _) _)⟩
              case measure => simp [intOf]; omega
          · have HQ := Lib.hid (show wOk ws (j + 1) = false by rw [HJ.out]; simp [inB, hx1])
            have e1 : decide (1 ≤ x) = false := by simpa using hx1
            clear hx1
            go_wp2
            go_quiet (fail)
            go_wp2
            go_roundw
            case rel => exact ⟨j + 1 + 1, by omega, rfl, by rw [HN.out, HQ.out], Below.self_trans HW.out (below_drewN (Below.refl _ _) _)⟩
            case measure => simp [intOf]; omega
    · have hltI : ¬ (k : Int) < (ws.length : Int) := by omega
      have hke : k = ws.length := by omega
      have hW : wAll ws k = wAll ws ws.length := by rw [hke]
      cases hP : (H && wAll ws k) with
      | true =>
        have HP := Lib.hid hP
        have HWW := Lib.hid hW
        clear hP hke hW
        go_wp2
        go_ret
        exact ⟨ret_int (by rw [HE.out, ← HWW.out, HP.out]; rfl), HB2.out⟩
      | false =>
        have HP := Lib.hid hP
        have HWW := Lib.hid hW
        clear hP hke hW
        go_wp2
        go_ret
        exact ⟨ret_int (by rw [HE.out, ← HWW.out, HP.out]; rfl), HB2.out⟩
end Go.Proofs.YtfmokccoilgpmaaGreatDoor

/-! plans: Validate, Weight, StageWeight; the weight of a rollout, of both. -/
namespace Go.Proofs.YtfmokccoilgpmaaGreatDoor
open Go.RowKit Go.Own
set_option linter.unusedVariables false
set_option maxHeartbeats 1000000
set_option maxRecDepth 20000

theorem validate_calls (p : Pl) (v : Value) (w : World) (h : PlV w v p) :
    Calls Tryz.prog 68 #[v] w fun e w' => e = .returned (.int .i64 (planE p)) ∧ Below w.heap.size w w' := by
  obtain ⟨ws, ms, num, den, hold, win⟩ := p
  obtain ⟨vw, rfl, hr⟩ := h
  unfold Pl.agg
  have HB := (Below.refl w.heap.size w).alloc (Nat.le_refl _) (.cells #[vw, .int .i64 ms, .int .i64 num, .int .i64 den, .int .i64 hold, .int .i64 win] 25)
  have hr := hr.below HB
  have HR := Lib.hid hr
  obtain ⟨⟨a, cap, rfl, h1, h2, h3, hc⟩, -⟩ := hr
  have H1 := heap_alloc_new w (.cells #[.slice a ws.length cap, .int .i64 ms, .int .i64 num, .int .i64 den, .int .i64 hold, .int .i64 win] 25)
  clear hc h1 h2 h3
  have HE : Hid (planE ⟨ws, ms, num, den, hold, win⟩ = if (weightsB ws && (inB ms 1 1000000 && (inB num 0 1000000 && (inB den 1 1000000 && (inB hold 1 100 && inB win 1 1000000))))) = true then 0 else 8) := Lib.hid rfl
  generalize planE ⟨ws, ms, num, den, hold, win⟩ = E at *
  go_enter Tryz.func68, Tryz.ntmps68
  go_wp2_with fail
  refine (weights_calls _ ws _ HR.out).mono ?_
  rintro e w1 ⟨rfl, rfl⟩
  generalize (w.alloc (.cells #[.slice a ws.length cap, .int .i64 ms, .int .i64 num, .int .i64 den, .int .i64 hold, .int .i64 win] 25)) = w1 at *
  obtain ⟨⟨c0, c1, c2, c3, c4, c5⟩, -, -⟩ := row6 H1
  clear H1
  cases k0 : weightsB ws with
  | false =>
    have HK := Lib.hid k0
    clear k0
    go_wp2_with fail
    go_ret
    exact ⟨ret_int (by rw [HE.out, HK.out]; rfl), HB⟩
  | true =>
  have K0 := Lib.hid k0
  clear k0
  go_wp2_with fail
  refine (pwithin_calls _ _ _ _).mono ?_
  rintro e w2 ⟨rfl, rfl⟩
  cases k1 : inB ms 1 1000000 with
  | false =>
    have HK := Lib.hid k1
    clear k1
    go_wp2_with fail
    go_ret
    exact ⟨ret_int (by rw [HE.out, K0.out, HK.out]; rfl), HB⟩
  | true =>
  have K1 := Lib.hid k1
  clear k1
  go_wp2_with fail
  refine (pwithin_calls _ _ _ _).mono ?_
  rintro e w2 ⟨rfl, rfl⟩
  cases k2 : inB num 0 1000000 with
  | false =>
    have HK := Lib.hid k2
    clear k2
    go_wp2_with fail
    go_ret
    exact ⟨ret_int (by rw [HE.out, K0.out, K1.out, HK.out]; rfl), HB⟩
  | true =>
  have K2 := Lib.hid k2
  clear k2
  go_wp2_with fail
  refine (pwithin_calls _ _ _ _).mono ?_
  rintro e w2 ⟨rfl, rfl⟩
  cases k3 : inB den 1 1000000 with
  | false =>
    have HK := Lib.hid k3
    clear k3
    go_wp2_with fail
    go_ret
    exact ⟨ret_int (by rw [HE.out, K0.out, K1.out, K2.out, HK.out]; rfl), HB⟩
  | true =>
  have K3 := Lib.hid k3
  clear k3
  go_wp2_with fail
  refine (pwithin_calls _ _ _ _).mono ?_
  rintro e w2 ⟨rfl, rfl⟩
  cases k4 : inB hold 1 100 with
  | false =>
    have HK := Lib.hid k4
    clear k4
    go_wp2_with fail
    go_ret
    exact ⟨ret_int (by rw [HE.out, K0.out, K1.out, K2.out, K3.out, HK.out]; rfl), HB⟩
  | true =>
  have K4 := Lib.hid k4
  clear k4
  go_wp2_with fail
  refine (pwithin_calls _ _ _ _).mono ?_
  rintro e w2 ⟨rfl, rfl⟩
  cases k5 : inB win 1 1000000 with
  | false =>
    have HK := Lib.hid k5
    clear k5
    go_wp2_with fail
    go_ret
    exact ⟨ret_int (by rw [HE.out, K0.out, K1.out, K2.out, K3.out, K4.out, HK.out]; rfl), HB⟩
  | true =>
    have HK := Lib.hid k5
    clear k5
    go_wp2_with fail
    go_ret
    exact ⟨ret_int (by rw [HE.out, K0.out, K1.out, K2.out, K3.out, K4.out, HK.out]; rfl), HB⟩

theorem pweight_calls (p : Pl) (v : Value) (s : Int) (w : World) (h : PlV w v p) :
    Calls Tryz.prog 36 #[v, .int .i64 s] w fun e w' => e = .returned (.int .i64 (planW p s)) ∧ Below w.heap.size w w' := by
  obtain ⟨ws, ms, num, den, hold, win⟩ := p
  obtain ⟨vw, rfl, hr⟩ := h
  unfold Pl.agg
  have HB := (Below.refl w.heap.size w).alloc (Nat.le_refl _) (.cells #[vw, .int .i64 ms, .int .i64 num, .int .i64 den, .int .i64 hold, .int .i64 win] 25)
  have hr := hr.below HB
  have HP : PlV (w.alloc (.cells #[vw, .int .i64 ms, .int .i64 num, .int .i64 den, .int .i64 hold, .int .i64 win] 25)) (Pl.agg ⟨ws, ms, num, den, hold, win⟩ vw) ⟨ws, ms, num, den, hold, win⟩ := ⟨vw, rfl, hr⟩
  have HC := Lib.hid (validate_calls _ _ _ HP)
  unfold Pl.agg at HC
  obtain ⟨⟨a, cap, rfl, h1, h2, h3, hc⟩, -⟩ := id hr
  have HR := Lib.hid hr
  have H1 := Lib.hid (heap_alloc_new w (.cells #[.slice a ws.length cap, .int .i64 ms, .int .i64 num, .int .i64 den, .int .i64 hold, .int .i64 win] 25))
  clear hc h1 h2 h3 HP hr
  have HE : Hid (planW ⟨ws, ms, num, den, hold, win⟩ s = if (planB ⟨ws, ms, num, den, hold, win⟩ && (decide (0 ≤ s) && decide (s < ws.length))) then ws.getD s.toNat 0 else 0) := Lib.hid rfl
  have HV : Hid (planE ⟨ws, ms, num, den, hold, win⟩ = if planB ⟨ws, ms, num, den, hold, win⟩ then 0 else 8) := Lib.hid rfl
  generalize planW ⟨ws, ms, num, den, hold, win⟩ s = E at *
  generalize planB ⟨ws, ms, num, den, hold, win⟩ = B at *
  generalize planE ⟨ws, ms, num, den, hold, win⟩ = V at *
  go_enter Tryz.func36, Tryz.ntmps36
  go_wp2_with fail
  refine HC.out.mono ?_
  rintro e w1 ⟨rfl, hb⟩
  obtain ⟨⟨c0, c1, c2, c3, c4, c5⟩, -, -⟩ := row6 (row_below H1.out hb)
  obtain ⟨⟨a', cap', e', h1, h2, h3, hc⟩, -⟩ := HR.out.below hb
  injection e' with e1 e2 e3
  subst e1 e3
  have HB1 := Lib.hid (Below.self_trans HB hb)
  have HX := Lib.hid hc
  clear hb hc HC H1 HR HB
  cases B with
  | false =>
    have hV : V = 8 := HV.out
    subst hV
    clear HV
    go_wp2
    go_ret
    exact ⟨ret_int (by rw [HE.out]; rfl), HB1.out⟩
  | true =>
    have hV : V = 0 := HV.out
    subst hV
    clear HV
    by_cases hs0 : 0 ≤ s
    · by_cases hs1 : s < (ws.length : Int)
      · obtain ⟨k, rfl⟩ := Int.eq_ofNat_of_zero_le hs0
        have hk : k < ws.length := by omega
        obtain ⟨b, off, rfl, d0⟩ := rdc_int HX.out k hk
        have HQ := Lib.hid (show ws.getD ((k : Int)).toNat 0 = ws[k] by rw [Int.toNat_natCast, List.getD_eq_getElem?_getD, List.getElem?_eq_getElem hk]; rfl)
        have HD : Hid (E = ws[k]) := Lib.hid (by rw [HE.out, decide_eq_true hs0, decide_eq_true hs1]; exact HQ.out)
        clear HE HQ
        generalize ws[k] = x at *
        go_wp2
        go_ret
        exact ⟨ret_int HD.out.symm, HB1.out⟩
      · have HD : Hid (E = 0) := Lib.hid (by rw [HE.out, decide_eq_false hs1, Bool.and_false]; rfl)
        clear HE
        go_wp2
        go_ret
        exact ⟨ret_int HD.out.symm, HB1.out⟩
    · have HD : Hid (E = 0) := Lib.hid (by rw [HE.out, decide_eq_false hs0]; rfl)
      clear HE
      go_wp2
      go_ret
      exact ⟨ret_int HD.out.symm, HB1.out⟩

theorem refStageW_calls (p : Pl) (v : Value) (s : Int) (w : World) (h : PlV w v p) :
    Calls Tryz.prog 64 #[v, .int .i64 s] w fun e w' => e = .returned (.int .i64 (planW p s)) ∧ Below w.heap.size w w' := by
  obtain ⟨ws, ms, num, den, hold, win⟩ := p
  obtain ⟨vw, rfl, hr⟩ := h
  unfold Pl.agg
  have HB := (Below.refl w.heap.size w).alloc (Nat.le_refl _) (.cells #[vw, .int .i64 ms, .int .i64 num, .int .i64 den, .int .i64 hold, .int .i64 win] 25)
  have hr := hr.below HB
  have HP : PlV (w.alloc (.cells #[vw, .int .i64 ms, .int .i64 num, .int .i64 den, .int .i64 hold, .int .i64 win] 25)) (Pl.agg ⟨ws, ms, num, den, hold, win⟩ vw) ⟨ws, ms, num, den, hold, win⟩ := ⟨vw, rfl, hr⟩
  have HC := Lib.hid (refPlan_calls _ _ _ HP)
  unfold Pl.agg at HC
  obtain ⟨⟨a, cap, rfl, h1, h2, h3, hc⟩, -⟩ := id hr
  have HR := Lib.hid hr
  have H1 := Lib.hid (heap_alloc_new w (.cells #[.slice a ws.length cap, .int .i64 ms, .int .i64 num, .int .i64 den, .int .i64 hold, .int .i64 win] 25))
  clear hc h1 h2 h3 HP hr
  have HE : Hid (planW ⟨ws, ms, num, den, hold, win⟩ s = if (planB ⟨ws, ms, num, den, hold, win⟩ && (decide (0 ≤ s) && decide (s < ws.length))) then ws.getD s.toNat 0 else 0) := Lib.hid rfl
  have HV : Hid (planE ⟨ws, ms, num, den, hold, win⟩ = if planB ⟨ws, ms, num, den, hold, win⟩ then 0 else 8) := Lib.hid rfl
  generalize planW ⟨ws, ms, num, den, hold, win⟩ s = E at *
  generalize planB ⟨ws, ms, num, den, hold, win⟩ = B at *
  generalize planE ⟨ws, ms, num, den, hold, win⟩ = V at *
  go_enter Tryz.func64, Tryz.ntmps64
  go_wp2_with fail
  refine HC.out.mono ?_
  rintro e w1 ⟨rfl, hb⟩
  obtain ⟨⟨c0, c1, c2, c3, c4, c5⟩, -, -⟩ := row6 (row_below H1.out hb)
  obtain ⟨⟨a', cap', e', h1, h2, h3, hc⟩, -⟩ := HR.out.below hb
  injection e' with e1 e2 e3
  subst e1 e3
  have HB1 := Lib.hid (Below.self_trans HB hb)
  have HX := Lib.hid hc
  clear hb hc HC H1 HR HB
  cases B with
  | false =>
    have hV : V = 8 := HV.out
    subst hV
    clear HV
    go_wp2
    go_ret
    exact ⟨ret_int (by rw [HE.out]; rfl), HB1.out⟩
  | true =>
    have hV : V = 0 := HV.out
    subst hV
    clear HV
    by_cases hs0 : 0 ≤ s
    · by_cases hs1 : s < (ws.length : Int)
      · obtain ⟨k, rfl⟩ := Int.eq_ofNat_of_zero_le hs0
        have hk : k < ws.length := by omega
        obtain ⟨b, off, rfl, d0⟩ := rdc_int HX.out k hk
        have HQ := Lib.hid (show ws.getD ((k : Int)).toNat 0 = ws[k] by rw [Int.toNat_natCast, List.getD_eq_getElem?_getD, List.getElem?_eq_getElem hk]; rfl)
        have HD : Hid (E = ws[k]) := Lib.hid (by rw [HE.out, decide_eq_true hs0, decide_eq_true hs1]; exact HQ.out)
        clear HE HQ
        generalize ws[k] = x at *
        go_wp2
        go_ret
        exact ⟨ret_int HD.out.symm, HB1.out⟩
      · have HD : Hid (E = 0) := Lib.hid (by rw [HE.out, decide_eq_false hs1, Bool.and_false]; rfl)
        clear HE
        go_wp2
        go_ret
        exact ⟨ret_int HD.out.symm, HB1.out⟩
    · have HD : Hid (E = 0) := Lib.hid (by rw [HE.out, decide_eq_false hs0]; rfl)
      clear HE
      go_wp2
      go_ret
      exact ⟨ret_int HD.out.symm, HB1.out⟩

theorem rollW_calls (p : Pl) (v : Value) (st sg he t er ag : Int) (w : World) (h : PlV w v p) :
    Calls Tryz.prog 12 #[.agg #[.int .i64 st, .int .i64 sg, .int .i64 he, .int .i64 t, .int .i64 er, .int .i64 ag], v] w fun e w' => e = .returned (.int .i64 (rollW st sg p)) ∧ Below w.heap.size w w' := by
  obtain ⟨vw, rfl, hr⟩ := id h
  have HB := ((Below.refl w.heap.size w).alloc (Nat.le_refl _) (.cells #[.int .i64 st, .int .i64 sg, .int .i64 he, .int .i64 t, .int .i64 er, .int .i64 ag] 32)).alloc (by simp) (.cells #[vw, .int .i64 p.ms, .int .i64 p.num, .int .i64 p.den, .int .i64 p.hold, .int .i64 p.win] 25)
  have HC := Lib.hid (pweight_calls p _ sg _ (h.below HB))
  clear h hr
  unfold Pl.agg at *
  have e1 : rollW st sg p = if st == 1 || st == 4 then planW p sg else if st == 2 then 10000 else 0 := rfl
  have HE := Lib.hid e1
  clear e1
  generalize rollW st sg p = E at *
  generalize planW p sg = V at *
  generalize p.ms = m1 at *
  generalize p.num = m2 at *
  generalize p.den = m3 at *
  generalize p.hold = m4 at *
  generalize p.win = m5 at *
  by_cases h1 : st = 1
  · subst h1
    have HD : Hid (E = V) := Lib.hid HE.out
    clear HE
    go_enter Tryz.func12, Tryz.ntmps12
    go_wp2_with fail
    refine HC.out.mono ?_
    rintro e w1 ⟨rfl, hb⟩
    have HB1 := Lib.hid (Below.self_trans HB hb)
    clear HC HB hb
    go_wp2
    go_ret
    exact ⟨ret_int HD.out.symm, HB1.out⟩
  · by_cases h4 : st = 4
    · subst h4
      have HD : Hid (E = V) := Lib.hid HE.out
      clear HE
      go_enter Tryz.func12, Tryz.ntmps12
      go_wp2_with fail
      refine HC.out.mono ?_
      rintro e w1 ⟨rfl, hb⟩
      have HB1 := Lib.hid (Below.self_trans HB hb)
      clear HC HB hb
      go_wp2
      go_ret
      exact ⟨ret_int HD.out.symm, HB1.out⟩
    · have e1 : (st == 1) = false := by simpa using h1
      have e4 : (st == 4) = false := by simpa using h4
      clear h1 h4 HC
      have HB1 := Lib.hid HB
      clear HB
      by_cases h2 : st = 2
      · subst h2
        have HD : Hid (E = 10000) := Lib.hid HE.out
        clear HE e1 e4
        go_enter Tryz.func12, Tryz.ntmps12
        go_wp2
        go_ret
        exact ⟨ret_int HD.out.symm, HB1.out⟩
      · have e2 : (st == 2) = false := by simpa using h2
        have HD : Hid (E = 0) := Lib.hid (by rw [HE.out, e1, e4, e2]; rfl)
        clear HE h2
        go_enter Tryz.func12, Tryz.ntmps12
        go_wp2
        go_ret
        exact ⟨ret_int HD.out.symm, HB1.out⟩

theorem refRollW_calls (p : Pl) (v : Value) (st sg he t er ag : Int) (w : World) (h : PlV w v p) :
    Calls Tryz.prog 32 #[.agg #[.int .i64 st, .int .i64 sg, .int .i64 he, .int .i64 t, .int .i64 er, .int .i64 ag], v] w fun e w' => e = .returned (.int .i64 (rollW st sg p)) ∧ Below w.heap.size w w' := by
  obtain ⟨vw, rfl, hr⟩ := id h
  have HB := ((Below.refl w.heap.size w).alloc (Nat.le_refl _) (.cells #[.int .i64 st, .int .i64 sg, .int .i64 he, .int .i64 t, .int .i64 er, .int .i64 ag] 32)).alloc (by simp) (.cells #[vw, .int .i64 p.ms, .int .i64 p.num, .int .i64 p.den, .int .i64 p.hold, .int .i64 p.win] 25)
  have HC := Lib.hid (refStageW_calls p _ sg _ (h.below HB))
  clear h hr
  unfold Pl.agg at *
  have e1 : rollW st sg p = if st == 1 || st == 4 then planW p sg else if st == 2 then 10000 else 0 := rfl
  have HE := Lib.hid e1
  clear e1
  generalize rollW st sg p = E at *
  generalize planW p sg = V at *
  generalize p.ms = m1 at *
  generalize p.num = m2 at *
  generalize p.den = m3 at *
  generalize p.hold = m4 at *
  generalize p.win = m5 at *
  by_cases h1 : st = 1
  · subst h1
    have HD : Hid (E = V) := Lib.hid HE.out
    clear HE
    go_enter Tryz.func32, Tryz.ntmps32
    go_wp2_with fail
    refine HC.out.mono ?_
    rintro e w1 ⟨rfl, hb⟩
    have HB1 := Lib.hid (Below.self_trans HB hb)
    clear HC HB hb
    go_wp2
    go_ret
    exact ⟨ret_int HD.out.symm, HB1.out⟩
  · by_cases h4 : st = 4
    · subst h4
      have HD : Hid (E = V) := Lib.hid HE.out
      clear HE
      go_enter Tryz.func32, Tryz.ntmps32
      go_wp2_with fail
      refine HC.out.mono ?_
      rintro e w1 ⟨rfl, hb⟩
      have HB1 := Lib.hid (Below.self_trans HB hb)
      clear HC HB hb
      go_wp2
      go_ret
      exact ⟨ret_int HD.out.symm, HB1.out⟩
    · have e1 : (st == 1) = false := by simpa using h1
      have e4 : (st == 4) = false := by simpa using h4
      clear h1 h4 HC
      have HB1 := Lib.hid HB
      clear HB
      by_cases h2 : st = 2
      · subst h2
        have HD : Hid (E = 10000) := Lib.hid HE.out
        clear HE e1 e4
        go_enter Tryz.func32, Tryz.ntmps32
        go_wp2
        go_ret
        exact ⟨ret_int HD.out.symm, HB1.out⟩
      · have e2 : (st == 2) = false := by simpa using h2
        have HD : Hid (E = 0) := Lib.hid (by rw [HE.out, e1, e4, e2]; rfl)
        clear HE h2
        go_enter Tryz.func32, Tryz.ntmps32
        go_wp2
        go_ret
        exact ⟨ret_int HD.out.symm, HB1.out⟩
end Go.Proofs.YtfmokccoilgpmaaGreatDoor
