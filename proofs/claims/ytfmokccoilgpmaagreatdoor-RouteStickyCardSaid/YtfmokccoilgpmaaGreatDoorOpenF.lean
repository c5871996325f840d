/- How []int, []api.Field and api.Field are opened. -/
import Derived.Test.YtfmokccoilgpmaaGreatDoorOpen
import Derived.Test.YtfmokccoilgpmaaGreatDoorSource
import Derived.Deep.SlicePairs
import Derived.Lib.SmallJoins
namespace Go.Proofs.YtfmokccoilgpmaaGreatDoor
open Go.ChangeShapes Go.WideShapes Go.ChangeAt Go.RowKit Go.Own Go.Joins Go.Deep
set_option linter.unusedVariables false

section
variable {H : Type} {enc : TypeId × Value → H} {P : Program}

theorem open_intsl {t e : TypeId} {W : World} {r : Reach} {b0 : Nat} {v : Value} {d : DataW H} {ps : List MemPlace} (ht : P.underlying t = some (.slice e)) (he : P.underlying e = some (.int .i64)) (hc : P.cellsOf e = 1)
    (hval : Value.okWide P W r b0 t v) (hd : DataW.Trod enc P W 0 (fun _ => true) true t v d ps) : ∃ l : List Int, RdI W v l ∧ l.length + 1 ≤ Rows.uptoBulk d := by
  obtain ⟨a0, len, cap, rfl⟩ := okWide_slice ht hval
  obtain ⟨fuel, hf⟩ := hd
  rcases open_ints ht he hc hf with ⟨hcs, hx⟩ | ⟨a, len', cap', zs, hcs, _, hl, hm, hz, hx, hcell, hwz⟩
  · simp [Value.cells] at hcs
    obtain ⟨rfl, rfl, rfl⟩ := hcs
    exact ⟨[], ⟨⟨none, 0, rfl, Nat.le_refl _, by simp [maxLen], fun _ => rfl, fun k hk => absurd hk (Nat.not_lt_zero _)⟩, by simp⟩, bulk_one _⟩
  · simp [Value.cells] at hcs
    obtain ⟨rfl, rfl, rfl⟩ := hcs
    simp only [Prod.mk.injEq] at hx
    obtain ⟨rfl, -⟩ := hx
    simp only [if_true] at hz
    have hlen : (zs.take len).length = len := by simp; omega
    refine ⟨zs.take len, ⟨⟨some a, cap, by rw [hlen], by omega, hm, by simp, ?_⟩, ?_⟩, ?_⟩
    · refine RdC_of_cells fun i hi => ?_
      rw [intsV_length, hlen] at hi
      rw [hcell i (by omega)]
      simp [intsV, intV, List.getD, show i < zs.length by omega]
    · intro x hx
      have hw := hwz x (List.mem_of_mem_take hx)
      simp [Lit.wf, IntKind.min, IntKind.max, IntKind.signed, IntKind.bits] at hw
      unfold In64
      omega
    · have h1 := bulk_length (lits (H := H) .i64 (zs.take len))
      simp only [Rows.uptoBulk]
      simp only [lits, List.length_map] at h1 hlen ⊢
      omega

theorem in64_of {n : Int} (h : (Lit.int .i64 n).wf = true) : In64 n := by
  simp [Lit.wf, IntKind.min, IntKind.max, IntKind.signed, IntKind.bits] at h
  unfold In64
  omega

def strVal : Value → ByteArray
  | .string s => s
  | _ => .empty

theorem bulk_fields (D0 D1 : Nat → DataW H) (V0 V1 : Nat → Value) : ∀ l : List Nat, (∀ i ∈ l, D0 i = .lit (.string (strVal (V0 i)).data.toList) ∧ D1 i = .lit (.string (strVal (V1 i)).data.toList)) →
    ((l.map fun i => (⟨strVal (V0 i), strVal (V1 i)⟩ : Fld)).map fun f => f.name.size + f.val.size + 2).sum ≤ Rows.uptoBulkAll (l.map fun i => DataW.agg [D0 i, D1 i]) := by
  intro l
  induction l with
  | nil => intro _; simp
  | cons i l ih =>
    intro h
    have h1 := h i (List.mem_cons_self ..)
    have h2 := ih fun j hj => h j (List.mem_cons_of_mem _ hj)
    simp only [List.map_cons, List.sum_cons, Rows.uptoBulkAll, Rows.uptoBulk, h1.1, h1.2]
    rw [size_toList, size_toList]
    omega

theorem open_fields' {t e : TypeId} {f0 f1 : Field} {W : World} {v : Value} {d : DataW H} {ps : List MemPlace} (ht : P.underlying t = some (.slice e)) (he : P.underlying e = some (.struct #[f0, f1]))
    (ce : P.cellsOf e = 2) (o0 : f0.offset = 0) (o1 : f1.offset = 1) (c0 : P.cellsOf f0.type = 1) (c1 : P.cellsOf f1.type = 1) (s0 : P.underlying f0.type = some .string) (s1 : P.underlying f1.type = some .string)
    (hval : ∃ a n c, v = .slice a n c) (hd : DataW.Trod enc P W 0 (fun _ => true) true t v d ps) :
    ∃ l : List Fld, RdF W v l ∧ (l.map fun f => f.name.size + f.val.size + 2).sum + 1 ≤ Rows.uptoBulk d ∧ ∀ f ∈ l, f.name.size ≤ maxLen ∧ f.val.size ≤ maxLen := by
  obtain ⟨a0, len, cap, rfl⟩ := hval
  obtain ⟨fuel, hf⟩ := hd
  rcases open_slice_pairs ht he ce o0 o1 c0 c1 hf with ⟨hcs, hx⟩ | ⟨a, len', cap', m, n, V0, V1, D0, D1, P0, P1, hcs, _, hl, hm, hmm, hx, hall⟩
  · simp [Value.cells] at hcs
    obtain ⟨rfl, rfl, rfl⟩ := hcs
    exact ⟨[], RdF_nil W, bulk_one _, by simp⟩
  · simp [Value.cells] at hcs
    obtain ⟨rfl, rfl, rfl⟩ := hcs
    simp only [Prod.mk.injEq] at hx
    obtain ⟨rfl, -⟩ := hx
    simp only [if_true] at hmm
    have each : ∀ i, i < len → (W.cell? (a.add (i * 2)) = some (.string (strVal (V0 i))) ∧ W.cell? (a.add (i * 2 + 1)) = some (.string (strVal (V1 i)))) ∧ (D0 i = .lit (.string (strVal (V0 i)).data.toList) ∧ D1 i = .lit (.string (strVal (V1 i)).data.toList)) ∧ (strVal (V0 i)).size ≤ maxLen ∧ (strVal (V1 i)).size ≤ maxLen := by
      intro i hi
      obtain ⟨g0, g1, g2, g3⟩ := hall i (by omega)
      obtain ⟨x0, hx0, hy0, hz0⟩ := DataW.trod_string s0 g2
      obtain ⟨x1, hx1, hy1, hz1⟩ := DataW.trod_string s1 g3
      have e0 : V0 i = .string x0 := by simpa using hx0
      have e1 : V1 i = .string x1 := by simpa using hx1
      simp only [Prod.mk.injEq] at hy0 hy1
      rw [g0, g1, e0, e1, hy0.1, hy1.1]
      exact ⟨⟨rfl, rfl⟩, ⟨rfl, rfl⟩, hz0, hz1⟩
    have hlen : ((List.range len).map fun i => (⟨strVal (V0 i), strVal (V1 i)⟩ : Fld)).length = len := by simp
    refine ⟨(List.range len).map fun i => ⟨strVal (V0 i), strVal (V1 i)⟩, ⟨some a, cap, by rw [hlen], by omega, hm, by simp, ?_⟩, ?_, ?_⟩
    · refine RdC_of_cells fun i hi => ?_
      rw [fieldsV_length, hlen] at hi
      have hk : i / 2 < len := by omega
      obtain ⟨⟨g0, g1⟩, -⟩ := each (i / 2) hk
      obtain ⟨q0, q1⟩ := fieldsV_get ((List.range len).map fun i => (⟨strVal (V0 i), strVal (V1 i)⟩ : Fld)) (i / 2) (by rw [hlen]; exact hk)
      rw [List.getElem_map, List.getElem_range] at q0 q1
      rcases Nat.mod_two_eq_zero_or_one i with h | h
      · have e : 2 * (i / 2) = i := by omega
        have e2 : i / 2 * 2 = i := by omega
        rw [e] at q0
        rw [e2] at g0
        rw [g0, ← q0, List.getElem?_eq_getElem]
      · have e : 2 * (i / 2) + 1 = i := by omega
        have e2 : i / 2 * 2 + 1 = i := by omega
        rw [e] at q1
        rw [e2] at g1
        rw [g1, ← q1, List.getElem?_eq_getElem]
    · simp only [Rows.uptoBulk]
      have h1 := bulk_fields D0 D1 V0 V1 (List.range len) fun i hi => (each i (List.mem_range.1 hi)).2.1
      omega
    · intro f hf
      obtain ⟨i, hi, rfl⟩ := List.mem_map.1 hf
      exact (each i (List.mem_range.1 hi)).2.2

theorem open_fields {t e : TypeId} {f0 f1 : Field} {W : World} {r : Reach} {b0 : Nat} {v : Value} {d : DataW H} {ps : List MemPlace} (ht : P.underlying t = some (.slice e)) (he : P.underlying e = some (.struct #[f0, f1]))
    (ce : P.cellsOf e = 2) (o0 : f0.offset = 0) (o1 : f1.offset = 1) (c0 : P.cellsOf f0.type = 1) (c1 : P.cellsOf f1.type = 1) (s0 : P.underlying f0.type = some .string) (s1 : P.underlying f1.type = some .string)
    (hval : Value.okWide P W r b0 t v) (hd : DataW.Trod enc P W 0 (fun _ => true) true t v d ps) :
    ∃ l : List Fld, RdF W v l ∧ (l.map fun f => f.name.size + f.val.size + 2).sum + 1 ≤ Rows.uptoBulk d ∧ ∀ f ∈ l, f.name.size ≤ maxLen ∧ f.val.size ≤ maxLen :=
  open_fields' ht he ce o0 o1 c0 c1 s0 s1 (by obtain ⟨a0, len, cap, rfl⟩ := okWide_slice ht hval; exact ⟨_, _, _, rfl⟩) hd

theorem open_field {t : TypeId} {f0 f1 : Field} {W : World} {r : Reach} {b0 : Nat} {v : Value} {d : DataW H} {ps : List MemPlace} (hs : P.underlying t = some (.struct #[f0, f1])) (hone : oneCellFields P #[f0, f1] = true) (hC : P.cellsOf t = 2)
    (s0 : P.underlying f0.type = some .string) (s1 : P.underlying f1.type = some .string)
    (hval : Value.okWide P W r b0 t v) (hd : DataW.Trod enc P W 0 (fun _ => true) true t v d ps) :
    ∃ f : Fld, v = f.agg ∧ f.name.size + f.val.size + 2 ≤ Rows.uptoBulk d ∧ f.name.size ≤ maxLen ∧ f.val.size ≤ maxLen := by
  obtain ⟨v0, v1, y0, y1, n, rfl, rfl, -, h0, h1⟩ := open_agg2 hs hone hC hval hd
  obtain ⟨x0, hx0, rfl, hz0⟩ := DataW.trod_string s0 h0
  obtain ⟨x1, hx1, rfl, hz1⟩ := DataW.trod_string s1 h1
  have e0 : v0 = .string x0 := by simpa using hx0
  have e1 : v1 = .string x1 := by simpa using hx1
  refine ⟨⟨x0, x1⟩, by rw [e0, e1]; rfl, ?_, hz0, hz1⟩
  simp only [Rows.uptoBulk, Rows.uptoBulkAll]
  rw [size_toList, size_toList]
  omega
end
end Go.Proofs.YtfmokccoilgpmaaGreatDoor
