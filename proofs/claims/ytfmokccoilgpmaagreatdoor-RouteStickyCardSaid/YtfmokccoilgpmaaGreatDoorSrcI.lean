/- canarymade.Source with its index: Next, Left, Input. -/
import Derived.Test.YtfmokccoilgpmaaGreatDoorSrcR
import Derived.BigQuiet
namespace Go.Proofs.YtfmokccoilgpmaaGreatDoor
open Go.RowKit Go.Own
set_option linter.unusedVariables false
set_option linter.unusedSimpArgs false
set_option maxHeartbeats 2000000
set_option maxRecDepth 20000

/-- block p is a Source over the numbers l that stands at number i -/
def SrcI (w : World) (p : Nat) (l : List Int) (i : Nat) : Prop :=
  ∃ a cap, w.heap[p]? = some (.cells #[.slice a l.length cap, .int .i64 i] 60 (0, 0)) ∧ i ≤ l.length ∧ l.length ≤ cap ∧ cap ≤ maxLen ∧ (a = none → cap = 0) ∧ RdC w a (intsV l) ∧ (l = [] ∨ ∀ b, blk a = some b → b < p) ∧ ∀ x ∈ l, In64 x
theorem SrcI.src {w : World} {p : Nat} {l : List Int} {i : Nat} (h : SrcI w p l i) : Src w p l := by
  obtain ⟨a, cap, h1, h2⟩ := h; exact ⟨a, cap, i, h1, h2⟩
theorem SrcI.lt {w : World} {p : Nat} {l : List Int} {i : Nat} (h : SrcI w p l i) : p < w.heap.size := h.src.lt
theorem SrcI.le {w : World} {p : Nat} {l : List Int} {i : Nat} (h : SrcI w p l i) : i ≤ l.length := by
  obtain ⟨a, cap, h1, h2, h3⟩ := h; exact h2
theorem SrcI.grown {w w' : World} {p : Nat} {l : List Int} {i : Nat} (h : SrcI w p l i) (hb : Below w.heap.size w w') : SrcI w' p l i := by
  have hlt := h.lt
  obtain ⟨a, cap, h1, h2, h3, h4, h5, h6, h7, h8⟩ := h
  exact ⟨a, cap, (hb.block p hlt).trans h1, h2, h3, h4, h5, h6.below hb, h7, h8⟩
theorem SrcI.drewN {w : World} {p : Nat} {l : List Int} {i : Nat} (h : SrcI w p l i) (n : Nat) : SrcI (w.drewN n) p l i := h.grown (below_drewN (Below.refl _ _) n)
theorem SrcI.row {w w' : World} {p g : Nat} {l : List Int} {i : Nat} (h : SrcI w p l i) (hg : w.grownBy w' (some g)) (hne : p < g) : SrcI w' p l i := by
  have hlt := h.lt
  obtain ⟨a, cap, h1, h2, h3, h4, h5, h6, h7, h8⟩ := h
  exact ⟨a, cap, (hg.block p hlt (by intro e; have := Option.some.inj e; omega)).trans h1, h2, h3, h4, h5, rdc_row h6 h7 hg (by omega), h7, h8⟩
theorem SrcI.own {w w' : World} {p : Nat} {r2 : Option Nat} {l : List Int} {i : Nat} (h : SrcI w p l i) (hg : w.grownBy w' r2) (hr : ∀ k, r2 = some k → p < k) : SrcI w' p l i := by
  cases r2 with
  | some g => exact h.row hg (hr g rfl)
  | none => exact h.grown ⟨hg.os, hg.tape, hg.output, hg.size, fun k hk => hg.block k hk (by simp)⟩
theorem srcI_new (w : World) (a : Option Addr) (l : List Int) (cap : Nat) (h : RdC w a (intsV l)) (h3 : l.length ≤ cap) (h4 : cap ≤ maxLen) (h5 : a = none → cap = 0) (h8 : ∀ x ∈ l, In64 x) (hlo : l = [] ∨ ∀ b, blk a = some b → b < w.heap.size) :
    SrcI (w.alloc (.cells #[.slice a l.length cap, .int .i64 0] 60)) w.heap.size l 0 :=
  ⟨a, cap, heap_alloc_new _ _, Nat.zero_le _, h3, h4, h5, h.below ((Below.refl _ _).alloc (Nat.le_refl _) _), hlo, h8⟩
theorem srcI_next {w : World} {p : Nat} {l : List Int} {a : Option Addr} {cap i : Nat} (hh : w.heap[p]? = some (.cells #[.slice a l.length cap, .int .i64 i] 60 (0, 0))) (hlt : i < l.length) (nq : Nat)
    (h3 : l.length ≤ cap) (h4 : cap ≤ maxLen) (h5 : a = none → cap = 0) (h6 : RdC w a (intsV l)) (h7 : l = [] ∨ ∀ b, blk a = some b → b < p) (h8 : ∀ x ∈ l, In64 x) :
    SrcI ((w.drewN nq).setCell ⟨p, 1, none⟩ (.int .i64 (↑i + 1))) p l (i + 1) := by
  refine ⟨a, cap, ?_, hlt, h3, h4, h5, ?_, h7, h8⟩
  · exact heap_setCell_same (w.drewN nq) p 1 _ _ _ hh
  · exact rdc_row (h6.below (below_drewN (Below.refl _ _) nq)) h7 (grown_set _ p 1 _) (Nat.le_refl _)

theorem nextI_calls (p : Nat) (l : List Int) (i : Nat) (n : Int) (w : World) (h : SrcI w p l i) (hn : 0 < n) (hn2 : n ≤ 4611686018427387904) :
    Calls Tryz.prog 45 #[.pointer (some ⟨p, 0, none⟩), .int .i64 n] w fun e w' => (∃ r : Int, e = .returned (.int .i64 r) ∧ 0 ≤ r ∧ r < n) ∧ w.grownBy w' (some p) ∧ ∃ j, SrcI w' p l j ∧ i ≤ j ∧ (i < l.length → i < j) := by
  have HS := Lib.hid h
  obtain ⟨a, cap, hh, hi, hlc, hcm, hn0, hr, hne, hx⟩ := h
  have c0 : w.cell? ⟨p, 0, none⟩ = some (.slice a l.length cap) := cell_of_row w p 0 _ _ _ hh
  have c1 : w.cell? ⟨p, 1, none⟩ = some (.int .i64 i) := cell_of_row w p 1 _ _ _ hh
  have f1 : w.frozen? ⟨p, 1, none⟩ = false := frozen_of_row w p 1 _ _ hh
  have hlm : l.length ≤ 9223372036854775807 := by unfold maxLen at hcm; omega
  by_cases hlt : i < l.length
  · have HN := Lib.hid (fun nq => srcI_next hh hlt nq hlc hcm hn0 hr hne hx)
    obtain ⟨b, off, rfl, hcell⟩ := rdc_int hr i hlt
    have hxi := hx l[i] (List.getElem_mem hlt)
    have HH := Lib.hid hh
    clear hh hr hx hn0
    have hbp : b ≠ p := by
      rcases hne with e | e
      · rw [e] at hlt; exact absurd hlt (Nat.not_lt_zero _)
      · have := e b rfl; omega
    have hil : decide ((l.length : Int) ≤ (i : Int)) = false := by rw [decide_eq_false_iff_not]; omega
    go_enter Tryz.func45, Tryz.ntmps45
    go_wp2
    go_quiet (fail)
    go_wp2
    have hb0 : w.heap[p]? = some (.cells #[.slice (some ⟨b, off, none⟩) l.length cap, .int .i64 i] 60 (0, 0)) := HH.out
    have W1 : ((w.drewN nq).setCell ⟨p, 1, none⟩ (.int .i64 (↑i + 1))).heap[p]? = some (.cells #[.slice (some ⟨b, off, none⟩) l.length cap, .int .i64 (↑i + 1)] 60 (0, 0)) :=
      heap_setCell_same (w.drewN nq) p 1 _ _ _ hb0
    have W2 : ((w.drewN nq).setCell ⟨p, 1, none⟩ (.int .i64 (↑i + 1))).cell? ⟨b, off + i, none⟩ = some (.int .i64 l[i]) := by
      rw [World.cell?_setCell_other _ _ _ _ (by intro e; simp only [Addr.mk.injEq] at e; exact hbp e.1.symm)]; exact hcell
    have W3 := grownBy_trans (grownBy_below (below_drewN (Below.refl w.heap.size w) nq) (some p)) (grown_set (w.drewN nq) p 1 (.int .i64 (↑i + 1)))
    have hs1 := Lib.hid (HN.out nq)
    clear HN HS
    generalize ((w.drewN nq).setCell ⟨p, 1, none⟩ (.int .i64 (↑i + 1))) = w3 at *
    have d0 : w3.cell? ⟨p, 0, none⟩ = some (.slice (some ⟨b, off, none⟩) l.length cap) := cell_of_row w3 p 0 _ _ _ W1
    have d1 : w3.cell? ⟨p, 1, none⟩ = some (.int .i64 (↑i + 1)) := cell_of_row w3 p 1 _ _ _ W1
    have HW1 := Lib.hid W1
    clear W1 c0 c1 f1 hb0 hcell
    have hwr : IntKind.i64.wrap (i : Int) = (i : Int) := IntWalk.i64_in _ (by omega)
    have hil2 : (i : Int) < (l.length : Int) := by omega
    go_quiet ((go_at_call 14; exact Calls.quiet_of_same (within_quiet _ _ _ hxi hn hn2)))
    go_wp2
    go_ret
    have hbd := within_bd l[i] n hn
    exact ⟨⟨_, rfl, hbd.1, hbd.2⟩, grownBy_trans W3 (grownBy_below (below_drewN (Below.refl _ _) _) _), i + 1, hs1.out.drewN _, by omega, fun _ => by omega⟩
  · have hil : decide ((l.length : Int) ≤ (i : Int)) = true := by rw [decide_eq_true_eq]; omega
    clear hh hr hx hn0
    go_enter Tryz.func45, Tryz.ntmps45
    go_wp2
    go_quiet (fail)
    go_wp2
    go_ret
    exact ⟨⟨_, rfl, by omega, by omega⟩, grownBy_below (below_drewN (Below.refl _ _) _) _, i, HS.out.drewN _, Nat.le_refl _, fun h => absurd h hlt⟩

theorem left_calls (p : Nat) (l : List Int) (i : Nat) (w : World) (h : SrcI w p l i) :
    Calls Tryz.prog 50 #[.pointer (some ⟨p, 0, none⟩)] w fun e w' => e = .returned (.bool (decide (i < l.length))) ∧ Below w.heap.size w w' := by
  obtain ⟨a, cap, hh, hi, hlc, hcm, hn0, hr, hne, hx⟩ := h
  have c0 : w.cell? ⟨p, 0, none⟩ = some (.slice a l.length cap) := cell_of_row w p 0 _ _ _ hh
  have c1 : w.cell? ⟨p, 1, none⟩ = some (.int .i64 i) := cell_of_row w p 1 _ _ _ hh
  have HD := Lib.hid (show decide ((i : Int) < (l.length : Int)) = decide (i < l.length) by simp)
  clear hh hr hx hne hn0
  go_enter Tryz.func50, Tryz.ntmps50
  go_wp2
  go_quiet (fail)
  go_wp2
  go_ret
  exact ⟨ret_bool (by first | rfl | exact HD.out | simp), below_drewN (Below.refl _ _) _⟩
end Go.Proofs.YtfmokccoilgpmaaGreatDoor
