/- append of one element as one step of a region that draws its order. No program stands here. -/
import Derived.Test.YthohdgjjlkeclaaDoorLib
import Derived.Deep.RegionLaw
import Derived.Orders
import Derived.Deep.Draws
namespace Go.Own
set_option linter.unusedVariables false
open Go.RowKit

theorem step_append_one {P : Program} {ops : Array Oper} {o : Oper} {a : Act} {w : World} {K : Act → World → Prop} {Q : Exit → Act → World → Prop} {E : Prop}
    (hgd : o.guard = none) (s x : Operand) (t : TypeId)
    (ho : o.op = .call { callee := .builtin .append, args := #[s, x], argTypes := #[t, t] })
    (w0 : World) (hb0 : Below w0.heap.size w0 w)
    (e : TypeId) (z : Value) (size bytes : Nat) (ht : P.underlying t = some (.slice e)) (hinfo : (P.info? e).map (fun i => (i.zero, i.size, i.bytes)) = some (some z, size, bytes)) (hzs : z.cells.size = size) (hsz : 0 < size)
    (a0 : Option Addr) (n c0 : Nat) (xs us : List Value) (hus : us.length = size) (h1 : ∀ u ∈ us, u.oneCell' = true)
    (hs : a.eval s = .slice a0 n c0) (hown0 : w.ownsRow w0.heap.size e size (.slice a0 n c0) n xs)
    (hx : a.eval x = .slice (some ⟨w.heap.size, 0, none⟩) 1 1)
    (hbytes : (n + 1) * bytes ≤ 140737488355328) (h63 : n + 1 ≤ maxLen)
    (hK : ∀ a' cap' w', Below w0.heap.size w0 w' → w'.ownsRow w0.heap.size e size (.slice a' (n + 1) cap') (n + 1) (xs ++ us) → w.grownBy w' (blk a0) → (blk a' = blk a0 ∨ ∃ g, blk a' = some g ∧ w.heap.size ≤ g) →
      K (a.put o.dst (.slice a' (n + 1) cap')) w') :
    if Region.wanted o (yielded ops a.tmps) = true then Oper.wp P o a (w.alloc (.cells us.toArray e)) K Q else E := by
  have hw : Region.wanted o (yielded ops a.tmps) = true := by simp [Region.wanted, hgd]
  rw [if_pos hw]
  obtain ⟨i, hi, hz, hsize, hby⟩ := info_parts hinfo
  have hb : Below w0.heap.size w0 (w.alloc (.cells us.toArray e)) := hb0.alloc hb0.size _
  have hown := hown0.alloc (.cells us.toArray e)
  have hr := RdC_new w us e (0, 0)
  have hl : us.length = 1 * size := by rw [hus, Nat.one_mul]
  have hnews : ∀ j u, us[j]? = some u → (w.alloc (.cells us.toArray e)).cell? ((⟨w.heap.size, 0, none⟩ : Addr).add j) = some u := by
    intro j u hu
    have hj := (List.getElem?_eq_some_iff.1 hu).1
    obtain ⟨b, off, had, hcell⟩ := hr j hj
    have e := Option.some.inj had
    injection e with e1 e2
    subst e1 e2
    rw [Addr.add_lit, hcell, ← hu, List.getElem?_eq_getElem hj]
  obtain ⟨v', w', hrun, h2, h3, -⟩ := run_append_own (P := P) (w.alloc (.cells us.toArray e)) w0.heap.size t o.type e i z size bytes ht hi hz hsize hby hzs hsz _ n xs hown ⟨w.heap.size, 0, none⟩ 1 1 us hl hnews h1 h63 hbytes hb.size
  have h4 := append_where (w.alloc (.cells us.toArray e)) w0.heap.size t o.type e i z size bytes ht hi hz hsize hby _ n xs hown ⟨w.heap.size, 0, none⟩ 1 1 us hl hnews h1 h63 hbytes hrun
  unfold Oper.wp execOp
  simp only [ho, resolve, invoke, builtin, Sem.run_bind, Sem.run_pure, Result.andThen_ok, List.map_toArray, List.map_cons, List.map_nil, hs, hx, hrun]
  obtain ⟨a', cap', rfl, -, -, -⟩ := owned_slice h2
  rw [ownBlock_slice, ownBlock_slice] at h4
  rw [ownBlock_slice] at h3
  refine hK a' cap' w' (hb.grown h3 hb.size fun k hk => (hown.lt k (by rw [ownBlock_slice]; exact hk)).1) h2 (grownBy_trans (World.grownBy_alloc w _ _) h3) ?_
  rcases h4 with h4 | h4
  · exact Or.inl h4
  · exact Or.inr ⟨_, h4, by simp⟩

/-- the same, above a base -/
theorem step_append_oneb {P : Program} {ops : Array Oper} {o : Oper} {a : Act} {w : World} {K : Act → World → Prop} {Q : Exit → Act → World → Prop} {E : Prop}
    (hgd : o.guard = none) (s x : Operand) (t : TypeId)
    (ho : o.op = .call { callee := .builtin .append, args := #[s, x], argTypes := #[t, t] })
    (base : Nat) (hb0 : base ≤ w.heap.size)
    (e : TypeId) (z : Value) (size bytes : Nat) (ht : P.underlying t = some (.slice e)) (hinfo : (P.info? e).map (fun i => (i.zero, i.size, i.bytes)) = some (some z, size, bytes)) (hzs : z.cells.size = size) (hsz : 0 < size)
    (a0 : Option Addr) (n c0 : Nat) (xs us : List Value) (hus : us.length = size) (h1 : ∀ u ∈ us, u.oneCell' = true)
    (hs : a.eval s = .slice a0 n c0) (hown0 : w.ownsRow base e size (.slice a0 n c0) n xs)
    (hx : a.eval x = .slice (some ⟨w.heap.size, 0, none⟩) 1 1)
    (hbytes : (n + 1) * bytes ≤ 140737488355328) (h63 : n + 1 ≤ maxLen)
    (hK : ∀ a' cap' w', w'.ownsRow base e size (.slice a' (n + 1) cap') (n + 1) (xs ++ us) → w.grownBy w' (blk a0) → (blk a' = blk a0 ∨ ∃ g, blk a' = some g ∧ w.heap.size ≤ g) →
      K (a.put o.dst (.slice a' (n + 1) cap')) w') :
    if Region.wanted o (yielded ops a.tmps) = true then Oper.wp P o a (w.alloc (.cells us.toArray e)) K Q else E := by
  have hw : Region.wanted o (yielded ops a.tmps) = true := by simp [Region.wanted, hgd]
  rw [if_pos hw]
  obtain ⟨i, hi, hz, hsize, hby⟩ := info_parts hinfo
  have hb : base ≤ (w.alloc (.cells us.toArray e)).heap.size := by simp; omega
  have hown := hown0.alloc (.cells us.toArray e)
  have hr := RdC_new w us e (0, 0)
  have hl : us.length = 1 * size := by rw [hus, Nat.one_mul]
  have hnews : ∀ j u, us[j]? = some u → (w.alloc (.cells us.toArray e)).cell? ((⟨w.heap.size, 0, none⟩ : Addr).add j) = some u := by
    intro j u hu
    have hj := (List.getElem?_eq_some_iff.1 hu).1
    obtain ⟨b, off, had, hcell⟩ := hr j hj
    have e := Option.some.inj had
    injection e with e1 e2
    subst e1 e2
    rw [Addr.add_lit, hcell, ← hu, List.getElem?_eq_getElem hj]
  obtain ⟨v', w', hrun, h2, h3, -⟩ := run_append_own (P := P) (w.alloc (.cells us.toArray e)) base t o.type e i z size bytes ht hi hz hsize hby hzs hsz _ n xs hown ⟨w.heap.size, 0, none⟩ 1 1 us hl hnews h1 h63 hbytes hb
  have h4 := append_where (w.alloc (.cells us.toArray e)) base t o.type e i z size bytes ht hi hz hsize hby _ n xs hown ⟨w.heap.size, 0, none⟩ 1 1 us hl hnews h1 h63 hbytes hrun
  unfold Oper.wp execOp
  simp only [ho, resolve, invoke, builtin, Sem.run_bind, Sem.run_pure, Result.andThen_ok, List.map_toArray, List.map_cons, List.map_nil, hs, hx, hrun]
  obtain ⟨a', cap', rfl, -, -, -⟩ := owned_slice h2
  rw [ownBlock_slice, ownBlock_slice] at h4
  rw [ownBlock_slice] at h3
  refine hK a' cap' w' h2 (grownBy_trans (World.grownBy_alloc w _ _) h3) ?_
  rcases h4 with h4 | h4
  · exact Or.inl h4
  · exact Or.inr ⟨_, h4, by simp⟩
end Go.Own

/-! ### A region that draws its order, each of whose operations keeps a word of its own on the value it yields: one proof an operation, whatever the order -/
namespace Go.Own
set_option linter.unusedVariables false

/-- each operation has a place of its own for its value, and follows only earlier ones -/
def specOk (ops : Array Oper) (n : Nat) : Bool :=
  (List.range ops.size).all fun i => match ops[i]? with
    | some o => (match o.dst with
      | some d => decide (d < n) && (List.range ops.size).all (fun j => j == i || ((ops[j]?).bind (·.dst)) != some d)
      | none => false) && o.after.all (fun e => decide (e.on < i))
    | none => false
/-- the value of an operation -/
def valOf (o : Oper) (a : Act) : Value := match o.dst with
  | some d => a.tmps.getD d undef
  | none => undef
/-- no operation of the region writes this place -/
def idle (ops : Array Oper) (s : Nat) : Bool := ops.toList.all fun o => o.dst != some s
/-- what the region leaves alone -/
def Kept (ops : Array Oper) (a0 a : Act) : Prop := a.defers = a0.defers ∧ a.tmps.size = a0.tmps.size ∧ ∀ s, idle ops s = true → a.tmps.getD s undef = a0.tmps.getD s undef
/-- does o wait for operation j? -/
def needs (md : Region.Mode) (o : Oper) (j : Nat) : Bool := o.after.toList.any fun e => Region.binds md e && e.on == j
/-- one operation does what is said of it -/
def StepOk (P : Program) (md : Region.Mode) (ops : Array Oper) (Q : Exit → Act → World → Prop) (Le : World → World → Prop) (Sp : Nat → Value → World → Prop) (a0 : Act) (w0 : World) (i : Nat) (o : Oper) : Prop :=
  ∀ a w, Le w0 w → Kept ops a0 a → (∀ j oj, ops[j]? = some oj → needs md o j = true → Sp j (valOf oj a) w) →
    if Region.wanted o (yielded ops a.tmps) = true then ∀ K : Act → World → Prop, (∀ v w', Le w w' → Sp i v w' → K (a.put o.dst v) w') → o.wp P a w K Q else Sp i undef w

section
variable {P : Program} {md : Region.Mode} {ops : Array Oper} {Q : Exit → Act → World → Prop} {Le : World → World → Prop} {Sp : Nat → Value → World → Prop} {a0 : Act} {w0 : World} {n : Nat}

theorem specOk_at (h : specOk ops n = true) {i : Nat} {o : Oper} (hi : ops[i]? = some o) :
    ∃ d, o.dst = some d ∧ d < n ∧ (∀ (j : Nat) (oj : Oper), ops[j]? = some oj → j ≠ i → oj.dst ≠ some d) ∧ ∀ e ∈ o.after, e.on < i := by
  have hlt : i < ops.size := (Array.getElem?_eq_some_iff.1 hi).1
  have h1 := List.all_eq_true.1 h i (List.mem_range.2 hlt)
  rw [hi] at h1
  simp only [Bool.and_eq_true] at h1
  obtain ⟨h1, h2⟩ := h1
  cases hd : o.dst with
  | none => rw [hd] at h1; cases h1
  | some d =>
    rw [hd] at h1
    simp only [Bool.and_eq_true, decide_eq_true_eq] at h1
    refine ⟨d, rfl, h1.1, ?_, ?_⟩
    · intro j oj hj hne e
      have h3 := List.all_eq_true.1 h1.2 j (List.mem_range.2 (Array.getElem?_eq_some_iff.1 hj).1)
      rw [hj] at h3
      simp [hne, e] at h3
    · intro e he
      have := Array.all_eq_true_iff_forall_mem.1 h2 e he
      simpa using this

/-- nothing may come up: all are listed -/
theorem all_listed (h : specOk ops n = true) {listed : Array Bool} (hs : listed.size = ops.size) (hr : Region.ready md ops listed = []) : ∀ i, i < ops.size → listed.getD i false = true := by
  intro i
  induction i using Nat.strongRecOn with
  | ind i ih =>
    intro hi
    cases hl : listed.getD i false with
    | true => rfl
    | false =>
      exfalso
      obtain ⟨d, -, -, -, haft⟩ := specOk_at h (Array.getElem?_eq_getElem hi)
      have hm : i ∈ Region.ready md ops listed := by
        unfold Region.ready
        refine List.mem_filter.2 ⟨List.mem_range.2 hi, ?_⟩
        have hl2 : listed.getD i true = false := by
          have hi2 : i < listed.size := by omega
          simp only [Array.getD, hi2, dif_pos] at hl ⊢
          exact hl
        rw [hl2, Array.getElem?_eq_getElem hi]
        simp only [Bool.not_false, Bool.true_and, Option.map_some, Option.getD_some]
        refine Array.all_eq_true_iff_forall_mem.2 fun e he => ?_
        have := haft e he
        rw [ih e.on this (by omega)]
        simp
      rw [hr] at hm
      cases hm

/-- where the region stands -/
def SpecAt (Le : World → World → Prop) (ops : Array Oper) (Sp : Nat → Value → World → Prop) (a0 : Act) (w0 : World) (listed : Array Bool) (a : Act) (w : World) : Prop :=
  listed.size = ops.size ∧ Le w0 w ∧ Kept ops a0 a ∧ ∀ j oj, ops[j]? = some oj → listed.getD j false = true → Sp j (valOf oj a) w

theorem specAt_put (h : specOk ops n = true) (hn : a0.tmps.size = n) (htr : ∀ x y z, Le x y → Le y z → Le x z) (hm : ∀ j v x y, Le x y → Sp j v x → Sp j v y) {listed : Array Bool} {a : Act} {w w' : World} {i : Nat} {o : Oper} {v : Value} (hi : ops[i]? = some o) (hI : SpecAt Le ops Sp a0 w0 listed a w) (hw : Le w w') (hv : Sp i v w') :
    SpecAt Le ops Sp a0 w0 (listed.setIfInBounds i true) (a.put o.dst v) w' := by
  obtain ⟨d, hd, hdn, hne, -⟩ := specOk_at h hi
  obtain ⟨h1, h2, ⟨k1, k2, k3⟩, h4⟩ := hI
  have hput : a.put o.dst v = { a with tmps := a.tmps.setIfInBounds d v } := by rw [hd]; rfl
  have hdl : d < a.tmps.size := by rw [k2, hn]; exact hdn
  rw [hput]
  refine ⟨by simpa using h1, htr _ _ _ h2 hw, ⟨k1, by simpa using k2, ?_⟩, ?_⟩
  · intro s hs
    rw [← k3 s hs]
    have hsd : d ≠ s := by
      intro e
      have := List.all_eq_true.1 hs o (Array.mem_of_getElem? hi).val
      rw [hd, e] at this
      simp at this
    simp only [Array.getD_eq_getD_getElem?, Array.getElem?_setIfInBounds_ne hsd]
  · intro j oj hj hl
    by_cases hji : j = i
    · subst hji
      obtain rfl : o = oj := by rw [hi] at hj; exact Option.some.inj hj
      have : valOf o { a with tmps := a.tmps.setIfInBounds d v } = v := by
        unfold valOf
        rw [hd]
        simp [Array.getD_eq_getD_getElem?, hdl]
      rw [this]; exact hv
    · have hl2 : listed.getD j false = true := by
        rw [Array.getD_eq_getD_getElem?, Array.getElem?_setIfInBounds_ne (Ne.symm hji)] at hl
        rw [Array.getD_eq_getD_getElem?]; exact hl
      have : valOf oj { a with tmps := a.tmps.setIfInBounds d v } = valOf oj a := by
        unfold valOf
        cases hdj : oj.dst with
        | none => rfl
        | some dj =>
          have hdd : d ≠ dj := fun e => hne j oj hj hji (by rw [hdj, e])
          simp only [Array.getD_eq_getD_getElem?, Array.getElem?_setIfInBounds_ne hdd]
      rw [this]
      exact hm _ _ _ _ hw (h4 j oj hj hl2)

theorem wpAny_spec (h : specOk ops n = true) (hn : a0.tmps.size = n) (htr : ∀ x y z, Le x y → Le y z → Le x z) (hm : ∀ j v x y, Le x y → Sp j v x → Sp j v y) (hrf : ∀ x, Le x x)
    (hst : ∀ i o, ops[i]? = some o → StepOk P md ops Q Le Sp a0 w0 i o) (hQ : ∀ a w, Le w0 w → Kept ops a0 a → (∀ j oj, ops[j]? = some oj → Sp j (valOf oj a) w) → Q .normal a w) :
    ∀ (fuel : Nat) (listed : Array Bool) (a : Act) (w : World), listed.toList.countP (· == false) ≤ fuel → SpecAt Le ops Sp a0 w0 listed a w → wpAny P md ops Q fuel listed a w := by
  have fin : ∀ (listed : Array Bool) (a : Act) (w : World), Region.ready md ops listed = [] → SpecAt Le ops Sp a0 w0 listed a w → Q .normal a w := by
    intro listed a w hr hI
    exact hQ a w hI.2.1 hI.2.2.1 fun j oj hj => hI.2.2.2 j oj hj (all_listed h hI.1 hr j (Array.getElem?_eq_some_iff.1 hj).1)
  have rdy : ∀ (listed : Array Bool) (i : Nat), i ∈ Region.ready md ops listed → ∃ o, ops[i]? = some o ∧ listed.getD i true = false ∧ ∀ e ∈ o.after, Region.binds md e = true → listed.getD e.on false = true := by
    intro listed i hi
    unfold Region.ready at hi
    obtain ⟨h1, h2⟩ := List.mem_filter.1 hi
    have hlt := List.mem_range.1 h1
    rw [Array.getElem?_eq_getElem hlt] at h2 ⊢
    simp only [Option.map_some, Option.getD_some, Bool.and_eq_true, Bool.not_eq_true'] at h2
    refine ⟨_, rfl, h2.1, fun e he hb => ?_⟩
    have := Array.all_eq_true_iff_forall_mem.1 h2.2 e he
    simpa [hb] using this
  intro fuel
  induction fuel with
  | zero =>
    intro listed a w hc hI
    have hr : Region.ready md ops listed = [] := by
      cases hr : Region.ready md ops listed with
      | nil => rfl
      | cons i r =>
        obtain ⟨o, ho, hl, -⟩ := rdy listed i (by rw [hr]; exact List.mem_cons_self ..)
        have hlt : i < listed.size := by
          by_cases hlt : i < listed.size
          · exact hlt
          · simp [Array.getD, hlt] at hl
        have hz : listed.toList.countP (· == false) = 0 := by omega
        rw [List.countP_eq_zero] at hz
        have := hz listed[i] (by simp)
        simp [Array.getD, hlt] at hl
        rw [hl] at this
        simp at this
    exact ⟨hr, fin _ _ _ hr hI⟩
  | succ fuel ih =>
    intro listed a w hc hI
    refine ⟨fun hr => fin _ _ _ hr hI, fun i hi => ?_⟩
    obtain ⟨o, ho, hl, haft⟩ := rdy listed i hi
    have hlt : i < listed.size := by
      by_cases hlt : i < listed.size
      · exact hlt
      · simp [Array.getD, hlt] at hl
    have hli : listed[i] = false := by simpa [Array.getD, hlt] using hl
    have hc2 : (listed.setIfInBounds i true).toList.countP (· == false) ≤ fuel := by
      rw [Array.toList_setIfInBounds, List.countP_set (by simpa using hlt)]
      have : listed.toList[i]'(by simpa using hlt) = false := by simpa using hli
      rw [this, if_pos (show (false == false) = true from rfl), if_neg (show ¬ (true == false) = true by decide)]
      omega
    have hs := hst i o ho a w hI.2.1 hI.2.2.1 (fun j oj hj hnd => by
      unfold needs at hnd
      obtain ⟨e, he, hb⟩ := List.any_eq_true.1 hnd
      simp only [Bool.and_eq_true, beq_iff_eq] at hb
      exact hI.2.2.2 j oj hj (by rw [← hb.2]; exact haft e (Array.mem_toList_iff.1 he) hb.1))
    unfold wpOp
    rw [ho]
    simp only
    by_cases hw : Region.wanted o (yielded ops a.tmps) = true
    · rw [if_pos hw] at hs ⊢
      exact Or.inl (hs _ fun v w' hle hv => ih _ _ _ hc2 (specAt_put h hn htr hm ho hI hle hv))
    · rw [if_neg hw] at hs ⊢
      exact ih _ _ _ hc2 (specAt_put h hn htr hm ho hI (hrf w) hs)

/-- the law: a region that draws its order -/
theorem wp_region_spec {id : Nat} (hmx : P.follows .mixedOrders = true) (h : specOk ops a0.tmps.size = true) (htr : ∀ x y z, Le x y → Le y z → Le x z) (hm : ∀ j v x y, Le x y → Sp j v x → Sp j v y) (hrf : ∀ x, Le x x)
    (hst : ∀ i o, ops[i]? = some o → StepOk P .any ops Q Le Sp a0 w0.drew i o) (hQ : ∀ a w, Le w0.drew w → Kept ops a0 a → (∀ j oj, ops[j]? = some oj → Sp j (valOf oj a) w) → Q .normal a w) :
    (Code.region id ops true).wp P Q a0 w0 := by
  refine wp_region_any hmx (wpAny_spec h rfl htr hm hrf hst hQ _ _ _ _ ?_ ⟨by simp, hrf _, ⟨rfl, rfl, fun _ _ => rfl⟩, ?_⟩)
  · simpa using List.countP_le_length (p := (· == false)) (l := List.replicate ops.size false)
  · intro j oj hj hl
    simp [Array.getD] at hl

theorem stepOk_val {i : Nat} {o : Oper} (h : ∀ a w, Le w0 w → Kept ops a0 a → (∀ j oj, ops[j]? = some oj → needs md o j = true → Sp j (valOf oj a) w) → Region.wanted o (yielded ops a.tmps) = true ∧ ∃ v w', (execOp a.eval o).run P w = .ok (.value v) w' ∧ Le w w' ∧ Sp i v w') : StepOk P md ops Q Le Sp a0 w0 i o := by
  intro a w hle hk hp
  obtain ⟨hw, v, w', hrun, hl, hs⟩ := h a w hle hk hp
  rw [if_pos hw]
  intro K hK
  unfold Oper.wp
  rw [hrun]
  exact hK v w' hl hs
theorem stepOk_call {i : Nat} {o : Oper} (h : ∀ a w, Le w0 w → Kept ops a0 a → (∀ j oj, ops[j]? = some oj → needs md o j = true → Sp j (valOf oj a) w) → Region.wanted o (yielded ops a.tmps) = true ∧ ∃ f args, (execOp a.eval o).run P w = .ok (.enter f args) w ∧ Calls P f args w fun e w' => ∃ v, e = .returned v ∧ Le w w' ∧ Sp i v w') : StepOk P md ops Q Le Sp a0 w0 i o := by
  intro a w hle hk hp
  obtain ⟨hw, f, args, hrun, hc⟩ := h a w hle hk hp
  rw [if_pos hw]
  intro K hK
  unfold Oper.wp
  rw [hrun]
  refine hc.mono fun e w' ⟨v, he, hl, hs⟩ => ?_
  subst he
  exact hK v w' hl hs
theorem wanted_of {o oj : Oper} {a : Act} {j : Nat} {b : Bool} (hg : o.guard = some (j, b)) (hj : ops[j]? = some oj) (hv : valOf oj a = .bool b) : Region.wanted o (yielded ops a.tmps) = true := by
  unfold Region.wanted
  rw [hg]
  simp only
  unfold valOf at hv
  unfold yielded
  rw [hj]
  cases hd : oj.dst with
  | none => rw [hd] at hv; cases hv
  | some d =>
    rw [hd] at hv
    simp only [Array.getD_eq_getD_getElem?] at hv
    simp only [Option.bind_some, hd]
    cases hx : a.tmps[d]? with
    | none => rw [hx] at hv; cases hv
    | some x =>
      rw [hx] at hv
      simp only [Option.getD_some] at hv
      subst hv
      simp
theorem ev {a : Act} {s : Nat} {v : Value} (h : a.eval (.tmp s) = v) : a.tmps[s]?.getD undef = v := by rw [← h]; exact (Array.getD_eq_getD_getElem? ..).symm
theorem kept_eval {a a0 : Act} {s : Nat} (h : Kept ops a0 a) (hs : idle ops s = true) : a.eval (.tmp s) = a0.tmps.getD s undef := h.2.2 s hs

/-- all operations, one by one -/
def AllSteps (P : Program) (md : Region.Mode) (ops : Array Oper) (Q : Exit → Act → World → Prop) (Le : World → World → Prop) (Sp : Nat → Value → World → Prop) (a0 : Act) (w0 : World) : Nat → List Oper → Prop
  | _, [] => True
  | k, o :: r => StepOk P md ops Q Le Sp a0 w0 k o ∧ AllSteps P md ops Q Le Sp a0 w0 (k + 1) r
theorem allSteps_at : ∀ (l : List Oper) (k : Nat), AllSteps P md ops Q Le Sp a0 w0 k l → ∀ i o, l[i]? = some o → StepOk P md ops Q Le Sp a0 w0 (k + i) o
  | [], _, _, i, o, h => by simp at h
  | x :: r, k, hh, 0, o, h => by obtain rfl : x = o := by simpa using h
                                 exact hh.1
  | x :: r, k, hh, i + 1, o, h => by
    have := allSteps_at r (k + 1) hh.2 i o (by simpa using h)
    rwa [Nat.add_assoc, Nat.add_comm 1 i] at this
theorem wp_region_spec_lit {id : Nat} {l : List Oper} (hmx : P.follows .mixedOrders = true) (h : specOk l.toArray a0.tmps.size = true) (htr : ∀ x y z, Le x y → Le y z → Le x z) (hm : ∀ j v x y, Le x y → Sp j v x → Sp j v y) (hrf : ∀ x, Le x x)
    (hst : AllSteps P .any l.toArray Q Le Sp a0 w0.drew 0 l) (hQ : ∀ a w, Le w0.drew w → Kept l.toArray a0 a → (∀ j oj, l.toArray[j]? = some oj → Sp j (valOf oj a) w) → Q .normal a w) :
    (Code.region id l.toArray true).wp P Q a0 w0 :=
  wp_region_spec hmx h htr hm hrf (fun i o hi => by have := allSteps_at l 0 hst i o (by simpa using hi); rwa [Nat.zero_add] at this) hQ
end
end Go.Own
