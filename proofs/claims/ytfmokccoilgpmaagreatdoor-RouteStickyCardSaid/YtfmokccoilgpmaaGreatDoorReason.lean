/- The reasons of the statuses: the table of package writer, Reason of both. -/
import Derived.Test.YtfmokccoilgpmaaGreatDoorEnv
import Derived.Stop.LaidErr
import Derived.Lib.SmallJoins
import Derived.Laws.Rows
namespace Go.Proofs.YtfmokccoilgpmaaGreatDoor
open Go.RowKit Go.Own Go.ChangeShapes Go.WideShapes Go.Deep
set_option linter.unusedVariables false
set_option maxHeartbeats 1000000

def reasonT : List (Int × List UInt8) := [(200, [79, 75]), (400, [66, 97, 100, 32, 82, 101, 113, 117, 101, 115, 116]), (404, [78, 111, 116, 32, 70, 111, 117, 110, 100]), (405, [77, 101, 116, 104, 111, 100, 32, 78, 111, 116, 32, 65, 108, 108, 111, 119, 101, 100]), (408, [82, 101, 113, 117, 101, 115, 116, 32, 84, 105, 109, 101, 111, 117, 116]), (409, [67, 111, 110, 102, 108, 105, 99, 116]), (413, [67, 111, 110, 116, 101, 110, 116, 32, 84, 111, 111, 32, 76, 97, 114, 103, 101]), (431, [82, 101, 113, 117, 101, 115, 116, 32, 72, 101, 97, 100, 101, 114, 32, 70, 105, 101, 108, 100, 115, 32, 84, 111, 111, 32, 76, 97, 114, 103, 101]), (502, [66, 97, 100, 32, 71, 97, 116, 101, 119, 97, 121]), (503, [83, 101, 114, 118, 105, 99, 101, 32, 85, 110, 97, 118, 97, 105, 108, 97, 98, 108, 101]), (504, [71, 97, 116, 101, 119, 97, 121, 32, 84, 105, 109, 101, 111, 117, 116]), (505, [72, 84, 84, 80, 32, 86, 101, 114, 115, 105, 111, 110, 32, 78, 111, 116, 32, 83, 117, 112, 112, 111, 114, 116, 101, 100])]
def pairV (x : Int × List UInt8) : List Value := [.int .i64 x.1, .string ⟨x.2.toArray⟩]
def reasonsV : Array Value := (reasonT.flatMap pairV).toArray
def rS (k : Nat) : Int := (reasonT.getD k (0, [])).1
def rR (k : Nat) : ByteArray := ⟨(reasonT.getD k (0, [])).2.toArray⟩
/-- the reason of a status -/
def reasonOf (s : Int) : ByteArray := match reasonT.find? fun x => x.1 == s with
  | some x => ⟨x.2.toArray⟩
  | none => ⟨#[69, 114, 114, 111, 114]⟩
theorem reason_hit : ∀ k, k < 12 → reasonOf (rS k) = rR k := by decide +kernel
theorem reason_none {s : Int} (h : ∀ j, j < 12 → rS j ≠ s) : reasonOf s = ⟨#[69, 114, 114, 111, 114]⟩ := by
  have : (reasonT.find? fun x => x.1 == s) = none := by
    rw [List.find?_eq_none]
    intro x hx
    obtain ⟨j, hj, rfl⟩ := List.getElem_of_mem hx
    have hj2 : j < 12 := hj
    have := h j hj2
    unfold rS at this
    rw [List.getD_eq_getElem?_getD, List.getElem?_eq_getElem hj] at this
    simpa using this
  unfold reasonOf; rw [this]
theorem reason_size (s : Int) : (reasonOf s).size ≤ 100 := by
  by_cases h : ∃ j, j < 12 ∧ rS j = s
  · obtain ⟨j, hj, rfl⟩ := h
    rw [reason_hit j hj]
    have : ∀ j, j < 12 → (rR j).size ≤ 100 := by decide +kernel
    exact this j hj
  · rw [reason_none (fun j hj e => h ⟨j, hj, e⟩)]; decide

theorem pair_get (l : List (Int × List UInt8)) (k : Nat) (h : k < l.length) : (l.flatMap pairV)[2 * k]? = some (.int .i64 l[k].1) ∧ (l.flatMap pairV)[2 * k + 1]? = some (.string ⟨l[k].2.toArray⟩) := by
  induction l generalizing k with
  | nil => cases h
  | cons f l ih =>
    cases k with
    | zero => exact ⟨rfl, rfl⟩
    | succ k =>
      have := ih k (by simpa using h)
      have e1 : 2 * (k + 1) = 2 * k + 1 + 1 := by omega
      have e2 : 2 * (k + 1) + 1 = 2 * k + 1 + 1 + 1 := by omega
      rw [e1]
      exact ⟨by simpa [pairV] using this.1, by simpa [pairV] using this.2⟩
theorem pair_length (l : List (Int × List UInt8)) : (l.flatMap pairV).length = l.length * 2 := by
  induction l with
  | nil => rfl
  | cons f l ih => rw [List.flatMap_cons, List.length_append, ih]; simp [pairV]; omega

/-- an array of pairs that reads as these, cell for cell -/
theorem cells_of_pairs {H : Type} {enc : TypeId × Value → H} {P : Program} {w : World} {base : Nat} {sp : Nat → Bool} {held : Bool} {fuel : Nat} {t e : TypeId} {n : Nat} {f0 f1 : Field} {cs : List Value} {zs : List (Int × List UInt8)} {p : List MemPlace}
    (ht : P.underlying t = some (.array n e)) (he : P.underlying e = some (.struct #[f0, f1])) (hone : oneCellFields P #[f0, f1] = true) (hce : P.cellsOf e = 2) (hct : P.cellsOf t = n * 2) (s0 : P.underlying f0.type = some (.int .i64)) (s1 : P.underlying f1.type = some .string)
    (h : DataW.trod enc P w base sp held fuel t cs = some (.agg (zs.map fun x => .agg [.lit (.int .i64 x.1), .lit (.string x.2)]), p)) : cs = zs.flatMap pairV := by
  cases fuel with
  | zero => simp [DataW.trod] at h
  | succ fuel =>
    simp only [DataW.trod, ht, hce, hct] at h
    split at h
    · rename_i hl
      obtain ⟨xs, hm, hx⟩ := Option.map_eq_some_iff.1 h
      have hxs : xs.map (·.1) = zs.map fun x => (DataW.agg [.lit (.int .i64 x.1), .lit (.string x.2)] : DataW H) := by
        have := congrArg Prod.fst hx
        simpa using this
      have hxl : xs.length = n := by simpa using Lib.mapM_length hm
      have hzl : zs.length = n := by
        have := congrArg List.length hxs
        simp at this
        omega
      have each : ∀ i (hi : i < n), cs[2 * i]? = some (.int .i64 (zs[i]'(by omega)).1) ∧ cs[2 * i + 1]? = some (.string ⟨(zs[i]'(by omega)).2.toArray⟩) := by
        intro i hi
        obtain ⟨b, hb, hc⟩ := Lib.mapM_at hm i i (by simp [hi])
        obtain ⟨y0, y1, m, hy, hlen, g0, g1⟩ := trod_struct2 he hc
        obtain ⟨o0, k0⟩ := hone_of hone 0 f0 rfl
        obtain ⟨o1, k1⟩ := hone_of hone 1 f1 rfl
        rw [o0, k0] at g0
        rw [o1, k1] at g1
        obtain ⟨z, hz, rfl, -⟩ := DataW.trod_int s0 g0
        obtain ⟨s, hs, rfl, -⟩ := DataW.trod_string s1 g1
        have hbz : (DataW.agg [.lit (.int .i64 z), .lit (.string s.data.toList)] : DataW H) = .agg [.lit (.int .i64 (zs[i]'(by omega)).1), .lit (.string (zs[i]'(by omega)).2)] := by
          have h1 : (xs.map (·.1))[i]? = some b.1 := by simp [hb]
          rw [hxs, List.getElem?_map, List.getElem?_eq_getElem (by omega)] at h1
          simp only [Option.map_some, Option.some.injEq] at h1
          rw [h1, hy]
        simp only [DataW.agg.injEq, List.cons.injEq, DataW.lit.injEq, Lit.int.injEq, Lit.string.injEq, and_true, true_and] at hbz
        obtain ⟨e1, e2⟩ := hbz
        subst e1
        rw [← e2]
        have q0 := congrArg (fun l => l[0]?) hz
        have q1 := congrArg (fun l => l[0]?) hs
        simp [List.getElem?_drop] at q0 q1
        refine ⟨by rw [Nat.mul_comm]; exact q0, by rw [Nat.mul_comm]; rw [q1]⟩
      refine List.ext_getElem? fun j => ?_
      by_cases hj : j < n * 2
      · have hk : j / 2 < n := by omega
        obtain ⟨a0, a1⟩ := each (j / 2) hk
        obtain ⟨b0, b1⟩ := pair_get zs (j / 2) (by omega)
        rcases Nat.mod_two_eq_zero_or_one j with e | e
        · rw [show 2 * (j / 2) = j by omega] at a0 b0
          rw [a0, b0]
        · rw [show 2 * (j / 2) + 1 = j by omega] at a1 b1
          rw [a1, b1]
      · rw [List.getElem?_eq_none (by omega), List.getElem?_eq_none (by rw [pair_length]; omega)]
    · cases h

/-- EnvP, and the table of reasons -/
structure EnvW (w : World) : Prop where
  p : EnvP w
  rea : ∃ t fz, w.heap[0]? = some (.cells reasonsV t fz)
theorem EnvW.below {w w' : World} (h : EnvW w) (hb : Below w.heap.size w w') : EnvW w' where
  p := h.p.below hb
  rea := by
    obtain ⟨t, fz, hg⟩ := h.rea
    exact ⟨t, fz, (hb.block _ (Array.getElem?_eq_some_iff.1 hg).1).trans hg⟩

theorem index_rea (k : Nat) (hk : k < 12) (w : World) : (Instr.index 106 (.agg reasonsV) (.int .i64 (k : Int))).run Tryz.prog w = .ok (.agg #[.int .i64 (rS k), .string (rR k)]) w := by
  match k, hk with
  | 0, _ => show _ = _; kernel_rfl
  | 1, _ => show _ = _; kernel_rfl
  | 2, _ => show _ = _; kernel_rfl
  | 3, _ => show _ = _; kernel_rfl
  | 4, _ => show _ = _; kernel_rfl
  | 5, _ => show _ = _; kernel_rfl
  | 6, _ => show _ = _; kernel_rfl
  | 7, _ => show _ = _; kernel_rfl
  | 8, _ => show _ = _; kernel_rfl
  | 9, _ => show _ = _; kernel_rfl
  | 10, _ => show _ = _; kernel_rfl
  | 11, _ => show _ = _; kernel_rfl

theorem reason_calls (s : Int) (w : World) (hE : EnvW w) : Calls Tryz.prog 40 #[.int .i64 s] w fun e w' => e = .returned (.string (reasonOf s)) ∧ Below w.heap.size w w' := by
  obtain ⟨T, fz, hg⟩ := hE.rea
  have HG := Lib.hid hg
  clear hg
  go_enter Tryz.func40, Tryz.ntmps40
  go_wp2_with (refine wpList_load_row rfl 106 _ rfl 0 rfl T reasonsV fz _ HG.out Tryz.underlying106 rfl (by kernel_rfl) ?_)
  go_loopw [6] (fun i wr => ∃ k : Nat, k ≤ 12 ∧ i = .int .i64 k ∧ Below w.heap.size w wr ∧ Hid (∀ j, j < k → rS j ≠ s)) (fun i _ => 12 - (intOf i).toNat)
  case atStart => exact ⟨0, by omega, rfl, Below.refl _ _, Lib.hid (fun j hj => absurd hj (Nat.not_lt_zero _))⟩
  case round =>
    obtain ⟨k, hk, rfl, hb, HD⟩ := hrel
    by_cases hlt : k < 12
    · have hki : (k : Int) < 12 := by omega
      have hidx := fun w => index_rea k hlt w
      have hsz := hb.size
      cases hs : (rS k == s) with
      | true =>
        have HR := Lib.hid (show reasonOf s = rR k by rw [← beq_iff_eq.1 hs]; exact reason_hit k hlt)
        go_wp2
        go_ret
        exact ⟨ret_str HR.out.symm, hb.alloc hb.size _⟩
      | false =>
        go_wp2
        go_roundw
        case rel => exact ⟨k + 1, by omega, by go_num, hb.alloc hb.size _, Lib.hid (fun j hj => by
          by_cases e : j = k
          · subst e; simpa using hs
          · exact HD.out j (by omega))⟩
        case measure => simp [intOf]; omega
    · have hki : ¬ (k : Int) < 12 := by omega
      have HR := Lib.hid (reason_none (s := s) fun j hj => HD.out j (by omega))
      go_wp2
      go_ret
      exact ⟨ret_str HR.out.symm, hb⟩

theorem refReason_calls (s : Int) (w : World) : Calls Tryz.prog 43 #[.int .i64 s] w fun e w' => e = .returned (.string (reasonOf s)) ∧ w = w' := by
  by_cases h : ∃ j, j < 12 ∧ rS j = s
  · obtain ⟨j, hj, rfl⟩ := h
    match j, hj with
    | 0, _ =>
      have HR := Lib.hid (reason_hit 0 (by omega))
      rw [show rS 0 = 200 from rfl] at HR ⊢
      go_enter Tryz.func43, Tryz.ntmps43
      go_wp2
      go_ret
      exact ⟨ret_str (by rw [HR.out]; rfl), rfl⟩
    | 1, _ =>
      have HR := Lib.hid (reason_hit 1 (by omega))
      rw [show rS 1 = 400 from rfl] at HR ⊢
      go_enter Tryz.func43, Tryz.ntmps43
      go_wp2
      go_ret
      exact ⟨ret_str (by rw [HR.out]; rfl), rfl⟩
    | 2, _ =>
      have HR := Lib.hid (reason_hit 2 (by omega))
      rw [show rS 2 = 404 from rfl] at HR ⊢
      go_enter Tryz.func43, Tryz.ntmps43
      go_wp2
      go_ret
      exact ⟨ret_str (by rw [HR.out]; rfl), rfl⟩
    | 3, _ =>
      have HR := Lib.hid (reason_hit 3 (by omega))
      rw [show rS 3 = 405 from rfl] at HR ⊢
      go_enter Tryz.func43, Tryz.ntmps43
      go_wp2
      go_ret
      exact ⟨ret_str (by rw [HR.out]; rfl), rfl⟩
    | 4, _ =>
      have HR := Lib.hid (reason_hit 4 (by omega))
      rw [show rS 4 = 408 from rfl] at HR ⊢
      go_enter Tryz.func43, Tryz.ntmps43
      go_wp2
      go_ret
      exact ⟨ret_str (by rw [HR.out]; rfl), rfl⟩
    | 5, _ =>
      have HR := Lib.hid (reason_hit 5 (by omega))
      rw [show rS 5 = 409 from rfl] at HR ⊢
      go_enter Tryz.func43, Tryz.ntmps43
      go_wp2
      go_ret
      exact ⟨ret_str (by rw [HR.out]; rfl), rfl⟩
    | 6, _ =>
      have HR := Lib.hid (reason_hit 6 (by omega))
      rw [show rS 6 = 413 from rfl] at HR ⊢
      go_enter Tryz.func43, Tryz.ntmps43
      go_wp2
      go_ret
      exact ⟨ret_str (by rw [HR.out]; rfl), rfl⟩
    | 7, _ =>
      have HR := Lib.hid (reason_hit 7 (by omega))
      rw [show rS 7 = 431 from rfl] at HR ⊢
      go_enter Tryz.func43, Tryz.ntmps43
      go_wp2
      go_ret
      exact ⟨ret_str (by rw [HR.out]; rfl), rfl⟩
    | 8, _ =>
      have HR := Lib.hid (reason_hit 8 (by omega))
      rw [show rS 8 = 502 from rfl] at HR ⊢
      go_enter Tryz.func43, Tryz.ntmps43
      go_wp2
      go_ret
      exact ⟨ret_str (by rw [HR.out]; rfl), rfl⟩
    | 9, _ =>
      have HR := Lib.hid (reason_hit 9 (by omega))
      rw [show rS 9 = 503 from rfl] at HR ⊢
      go_enter Tryz.func43, Tryz.ntmps43
      go_wp2
      go_ret
      exact ⟨ret_str (by rw [HR.out]; rfl), rfl⟩
    | 10, _ =>
      have HR := Lib.hid (reason_hit 10 (by omega))
      rw [show rS 10 = 504 from rfl] at HR ⊢
      go_enter Tryz.func43, Tryz.ntmps43
      go_wp2
      go_ret
      exact ⟨ret_str (by rw [HR.out]; rfl), rfl⟩
    | 11, _ =>
      have HR := Lib.hid (reason_hit 11 (by omega))
      rw [show rS 11 = 505 from rfl] at HR ⊢
      go_enter Tryz.func43, Tryz.ntmps43
      go_wp2
      go_ret
      exact ⟨ret_str (by rw [HR.out]; rfl), rfl⟩
  · have HR := Lib.hid (reason_none (s := s) fun j hj e => h ⟨j, hj, e⟩)
    have f0 : (s == 200) = false := by rw [beq_eq_false_iff_ne]; intro e; exact h ⟨0, by omega, e.symm⟩
    have f1 : (s == 400) = false := by rw [beq_eq_false_iff_ne]; intro e; exact h ⟨1, by omega, e.symm⟩
    have f2 : (s == 404) = false := by rw [beq_eq_false_iff_ne]; intro e; exact h ⟨2, by omega, e.symm⟩
    have f3 : (s == 405) = false := by rw [beq_eq_false_iff_ne]; intro e; exact h ⟨3, by omega, e.symm⟩
    have f4 : (s == 408) = false := by rw [beq_eq_false_iff_ne]; intro e; exact h ⟨4, by omega, e.symm⟩
    have f5 : (s == 409) = false := by rw [beq_eq_false_iff_ne]; intro e; exact h ⟨5, by omega, e.symm⟩
    have f6 : (s == 413) = false := by rw [beq_eq_false_iff_ne]; intro e; exact h ⟨6, by omega, e.symm⟩
    have f7 : (s == 431) = false := by rw [beq_eq_false_iff_ne]; intro e; exact h ⟨7, by omega, e.symm⟩
    have f8 : (s == 502) = false := by rw [beq_eq_false_iff_ne]; intro e; exact h ⟨8, by omega, e.symm⟩
    have f9 : (s == 503) = false := by rw [beq_eq_false_iff_ne]; intro e; exact h ⟨9, by omega, e.symm⟩
    have f10 : (s == 504) = false := by rw [beq_eq_false_iff_ne]; intro e; exact h ⟨10, by omega, e.symm⟩
    have f11 : (s == 505) = false := by rw [beq_eq_false_iff_ne]; intro e; exact h ⟨11, by omega, e.symm⟩
    clear h
    go_enter Tryz.func43, Tryz.ntmps43
    go_wp2
    go_ret
    exact ⟨ret_str HR.out.symm, rfl⟩
end Go.Proofs.YtfmokccoilgpmaaGreatDoor
