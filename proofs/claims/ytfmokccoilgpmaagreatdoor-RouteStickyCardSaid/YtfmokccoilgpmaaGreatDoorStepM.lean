/- A region that draws its order, in which there may be stores too (StepL's law, extended). No program stands here. -/
import Derived.Test.YtfmokccoilgpmaaGreatDoorPB
namespace Go.Own
open Go.RowKit
set_option linter.unusedVariables false

/-- the slots whose writers all wait for operation i are as at the beginning -/
def LateM (md : Region.Mode) (ops : Array Oper) (a0 a : Act) (i : Nat) : Prop := ∀ s : Nat, (∀ (j : Nat) (oj : Oper), ops[j]? = some oj → oj.dst = some s → needs md oj i = true) → a.tmps.getD s undef = a0.tmps.getD s undef
/-- what is said of an operation's value where it has a place; else of undef -/
def vOf (o : Oper) (v : Value) : Value := match o.dst with | some _ => v | none => undef
theorem vOf_undef (o : Oper) : vOf o undef = undef := by unfold vOf; cases o.dst <;> rfl
/-- operation j waits for operation i, if through others -/
def needsT (md : Region.Mode) (ops : Array Oper) : Nat → Nat → Nat → Bool
  | 0, _, _ => false
  | f + 1, j, i => match ops[j]? with
    | some o => o.after.toList.any fun e => Region.binds md e && (e.on == i || needsT md ops f e.on i)
    | none => false
/-- all that write wait for operation i -/
def strongB (md : Region.Mode) (ops : Array Oper) (wr : Nat → Bool) (i : Nat) : Bool := (List.range ops.size).all fun j => !wr j || j == i || needsT md ops ops.size j i
def StepOkM (P : Program) (md : Region.Mode) (ops : Array Oper) (Q : Exit → Act → World → Prop) (LeS Le : World → World → Prop) (wr : Nat → Bool) (Sp : Nat → Value → World → Prop) (a0 : Act) (w0 : World) (i : Nat) (o : Oper) : Prop :=
  ∀ a w, Le w0 w → (strongB md ops wr i = true → LeS w0 w) → Kept ops a0 a → LateM md ops a0 a i → (∀ j oj, ops[j]? = some oj → needs md o j = true → Sp j (valOf oj a) w) →
    if Region.wanted o (yielded ops a.tmps) = true then ∀ K : Act → World → Prop, (∀ v w', (if wr i = true then Le w w' else LeS w w') → Sp i (vOf o v) w' → K (a.put o.dst v) w') → o.wp P a w K Q else Sp i undef w

section
variable {P : Program} {md : Region.Mode} {ops : Array Oper} {Q : Exit → Act → World → Prop} {LeS Le : World → World → Prop} {wr : Nat → Bool} {Sp : Nat → Value → World → Prop} {a0 : Act} {w0 : World} {n : Nat}

/-- each operation has a place of its own for its value, and waits only for earlier ones -/
def specOkM (md : Region.Mode) (ops : Array Oper) (n : Nat) : Bool :=
  (List.range ops.size).all fun i => match ops[i]? with
    | some o => (match o.dst with
      | some d => decide (d < n) && (List.range ops.size).all (fun j => j == i || ((ops[j]?).bind (·.dst)) != some d)
      | none => true) && o.after.all (fun e => !Region.binds md e || decide (e.on < i))
    | none => false
theorem specOkM_at (h : specOkM md ops n = true) {i : Nat} {o : Oper} (hi : ops[i]? = some o) :
    (∀ d, o.dst = some d → d < n ∧ ∀ (j : Nat) (oj : Oper), ops[j]? = some oj → j ≠ i → oj.dst ≠ some d) ∧ ∀ e ∈ o.after, Region.binds md e = true → e.on < i := by
  have hlt : i < ops.size := (Array.getElem?_eq_some_iff.1 hi).1
  have h1 := List.all_eq_true.1 h i (List.mem_range.2 hlt)
  rw [hi] at h1
  simp only [Bool.and_eq_true] at h1
  obtain ⟨h1, h2⟩ := h1
  refine ⟨fun d hd => ?_, fun e he hb => ?_⟩
  · rw [hd] at h1
    simp only [Bool.and_eq_true, decide_eq_true_eq] at h1
    refine ⟨h1.1, fun j oj hj hne e => ?_⟩
    have h3 := List.all_eq_true.1 h1.2 j (List.mem_range.2 (Array.getElem?_eq_some_iff.1 hj).1)
    rw [hj] at h3
    simp [hne, e] at h3
  · have := Array.all_eq_true_iff_forall_mem.1 h2 e he
    simpa [hb] using this

theorem all_listedM (h : specOkM md ops n = true) {listed : Array Bool} (hs : listed.size = ops.size) (hr : Region.ready md ops listed = []) : ∀ i, i < ops.size → listed.getD i false = true := by
  intro i
  induction i using Nat.strongRecOn with
  | ind i ih =>
    intro hi
    cases hl : listed.getD i false with
    | true => rfl
    | false =>
      exfalso
      obtain ⟨-, haft⟩ := specOkM_at h (Array.getElem?_eq_getElem hi)
      have hm : i ∈ Region.ready md ops listed := by
        unfold Region.ready
        refine List.mem_filter.2 ⟨List.mem_range.2 hi, ?_⟩
        have hl2 : listed.getD i true = false := by
          have hi2 : i < listed.size := by omega
          simp only [Array.getD, hi2, dif_pos] at hl ⊢
          exact hl
        rw [hl2, Array.getElem?_eq_getElem hi]
        simp only [Bool.not_false, Bool.true_and, Option.map_some, Option.getD_some]
        refine Array.all_eq_true_iff_forall_mem.2 fun e he => ?_
        by_cases hb : Region.binds md e = true
        · have := haft e he hb
          rw [ih e.on this (by omega)]
          simp
        · simp [hb]
      rw [hr] at hm
      cases hm

theorem specAt_putM (h : specOkM md ops n = true) (hn : a0.tmps.size = n) (htr : ∀ x y z, Le x y → Le y z → Le x z) (hm : ∀ j v x y, Le x y → Sp j v x → Sp j v y) {listed : Array Bool} {a : Act} {w w' : World} {i : Nat} {o : Oper} {v : Value} (hi : ops[i]? = some o) (hI : SpecAt Le ops Sp a0 w0 listed a w) (hw : Le w w') (hv : Sp i (vOf o v) w') :
    SpecAt Le ops Sp a0 w0 (listed.setIfInBounds i true) (a.put o.dst v) w' := by
  obtain ⟨hsp, -⟩ := specOkM_at h hi
  obtain ⟨h1, h2, ⟨k1, k2, k3⟩, h4⟩ := hI
  have hll : ∀ j oj, j ≠ i → ops[j]? = some oj → (listed.setIfInBounds i true).getD j false = true → listed.getD j false = true := fun j oj hji hj hl => by
    rw [Array.getD_eq_getD_getElem?, Array.getElem?_setIfInBounds_ne (Ne.symm hji)] at hl
    rw [Array.getD_eq_getD_getElem?]; exact hl
  cases hd : o.dst with
  | none =>
    refine ⟨by simpa using h1, htr _ _ _ h2 hw, ⟨k1, k2, k3⟩, ?_⟩
    intro j oj hj hl
    by_cases hji : j = i
    · subst hji
      obtain rfl : o = oj := by rw [hi] at hj; exact Option.some.inj hj
      have e1 : valOf o (a.put none v) = undef := by unfold valOf; rw [hd]
      have e2 : vOf o v = undef := by unfold vOf; rw [hd]
      rw [e1, ← e2]; exact hv
    · exact hm _ _ _ _ hw (h4 j oj hj (hll j oj hji hj hl))
  | some d =>
    obtain ⟨hdn, hne⟩ := hsp d hd
    have hput : a.put (some d) v = { a with tmps := a.tmps.setIfInBounds d v } := rfl
    have hdl : d < a.tmps.size := by rw [k2, hn]; exact hdn
    have e2 : vOf o v = v := by unfold vOf; rw [hd]
    rw [e2] at hv
    rw [hput]
    refine ⟨by simpa using h1, htr _ _ _ h2 hw, ⟨k1, by simpa using k2, ?_⟩, ?_⟩
    · intro s hs
      rw [← k3 s hs]
      have hsd : d ≠ s := by
        intro e
        have := List.all_eq_true.1 hs o (Array.mem_of_getElem? hi).val
        rw [hd, e] at this
        simp at this
      simp only [Array.getD_eq_getD_getElem?, Array.getElem?_setIfInBounds_ne hsd]
    · intro j oj hj hl
      by_cases hji : j = i
      · subst hji
        obtain rfl : o = oj := by rw [hi] at hj; exact Option.some.inj hj
        have : valOf o { a with tmps := a.tmps.setIfInBounds d v } = v := by
          unfold valOf
          rw [hd]
          simp [Array.getD_eq_getD_getElem?, hdl]
        rw [this]; exact hv
      · have : valOf oj { a with tmps := a.tmps.setIfInBounds d v } = valOf oj a := by
          unfold valOf
          cases hdj : oj.dst with
          | none => rfl
          | some dj =>
            have hdd : d ≠ dj := fun e => hne j oj hj hji (by rw [hdj, e])
            simp only [Array.getD_eq_getD_getElem?, Array.getElem?_setIfInBounds_ne hdd]
        rw [this]
        exact hm _ _ _ _ hw (h4 j oj hj (hll j oj hji hj hl))

def SpecAtM (md : Region.Mode) (LeS Le : World → World → Prop) (wr : Nat → Bool) (ops : Array Oper) (Sp : Nat → Value → World → Prop) (a0 : Act) (w0 : World) (listed : Array Bool) (a : Act) (w : World) : Prop :=
  SpecAt Le ops Sp a0 w0 listed a w ∧ (∀ s : Nat, (∀ (j : Nat) (oj : Oper), ops[j]? = some oj → oj.dst = some s → listed.getD j false = false) → a.tmps.getD s undef = a0.tmps.getD s undef) ∧
  (∀ (j : Nat) (oj : Oper), ops[j]? = some oj → listed.getD j false = true → ∀ k, needs md oj k = true → listed.getD k false = true) ∧
  ((∀ j, wr j = true → listed.getD j false = false) → LeS w0 w)
theorem SpecAtM.through {listed : Array Bool} {a : Act} {w : World} (h : SpecAtM md LeS Le wr ops Sp a0 w0 listed a w) (i : Nat) : ∀ (f j : Nat), listed.getD j false = true → needsT md ops f j i = true → listed.getD i false = true := by
  intro f
  induction f with
  | zero => intro j _ hn; cases hn
  | succ f ih =>
    intro j hl hn
    unfold needsT at hn
    cases ho : ops[j]? with
    | none => rw [ho] at hn; cases hn
    | some o =>
      rw [ho] at hn
      simp only at hn
      obtain ⟨e, he, hb⟩ := List.any_eq_true.1 hn
      simp only [Bool.and_eq_true, Bool.or_eq_true, beq_iff_eq] at hb
      have hle : listed.getD e.on false = true := h.2.2.1 j o ho hl e.on (by
        unfold needs
        exact List.any_eq_true.2 ⟨e, he, by simp [hb.1]⟩)
      rcases hb.2 with h1 | h1
      · rw [← h1]; exact hle
      · exact ih e.on hle h1
theorem SpecAtM.strong {listed : Array Bool} {a : Act} {w : World} {i : Nat} (h : SpecAtM md LeS Le wr ops Sp a0 w0 listed a w) (hl : listed.getD i false = false) (hs : strongB md ops wr i = true) : LeS w0 w := by
  refine h.2.2.2 fun j hj => ?_
  cases e : listed.getD j false with
  | false => rfl
  | true =>
    have hlt : j < ops.size := by
      rw [← h.1.1]
      by_cases hlt : j < listed.size
      · exact hlt
      · simp [Array.getD, hlt] at e
    have h1 := List.all_eq_true.1 hs j (List.mem_range.2 hlt)
    rw [hj] at h1
    simp only [Bool.not_true, Bool.false_or, Bool.or_eq_true, beq_iff_eq] at h1
    rcases h1 with h1 | h1
    · subst h1; rw [e] at hl; cases hl
    · have := h.through i _ j e h1
      rw [this] at hl; cases hl
theorem SpecAtM.late {listed : Array Bool} {a : Act} {w : World} {i : Nat} (h : SpecAtM md LeS Le wr ops Sp a0 w0 listed a w) (hl : listed.getD i false = false) : LateM md ops a0 a i := by
  intro s hs
  refine h.2.1 s fun j oj hj hd => ?_
  cases e : listed.getD j false with
  | false => rfl
  | true => rw [h.2.2.1 j oj hj e i (hs j oj hj hd)] at hl; cases hl
theorem specAtM_put (h : specOkM md ops n = true) (hn : a0.tmps.size = n) (htr : ∀ x y z, Le x y → Le y z → Le x z) (hm : ∀ j v x y, Le x y → Sp j v x → Sp j v y) {listed : Array Bool} {a : Act} {w w' : World} {i : Nat} {o : Oper} {v : Value} (hi : ops[i]? = some o) (hI : SpecAtM md LeS Le wr ops Sp a0 w0 listed a w) (hle : ∀ x y, LeS x y → Le x y) (htrS : ∀ x y z, LeS x y → LeS y z → LeS x z) (hw : if wr i = true then Le w w' else LeS w w') (hv : Sp i (vOf o v) w')
    (hlt : i < listed.size) (hne : ∀ k, needs md o k = true → listed.getD k false = true) : SpecAtM md LeS Le wr ops Sp a0 w0 (listed.setIfInBounds i true) (a.put o.dst v) w' := by
  have hgi : (listed.setIfInBounds i true).getD i false = true := by simp [Array.getD_eq_getD_getElem?, hlt]
  have hgj : ∀ j, j ≠ i → (listed.setIfInBounds i true).getD j false = listed.getD j false := fun j hj => by
    rw [Array.getD_eq_getD_getElem?, Array.getElem?_setIfInBounds_ne (Ne.symm hj), Array.getD_eq_getD_getElem?]
  have hw2 : Le w w' := by
    by_cases e : wr i = true
    · rwa [if_pos e] at hw
    · rw [if_neg e] at hw; exact hle _ _ hw
  refine ⟨specAt_putM h hn htr hm hi hI.1 hw2 hv, ?_, ?_, fun hu => ?_⟩
  · intro s hs
    have hold : a.tmps.getD s undef = a0.tmps.getD s undef := hI.2.1 s fun j oj hj hdj => by
      have h2 := hs j oj hj hdj
      by_cases hji : j = i
      · subst hji; rw [hgi] at h2; cases h2
      · rwa [hgj j hji] at h2
    rw [← hold]
    cases hd : o.dst with
    | none => rfl
    | some d =>
      have hsd : d ≠ s := by
        rintro rfl
        have := hs i o hi hd
        rw [hgi] at this; cases this
      show (a.tmps.setIfInBounds d v).getD s undef = _
      simp only [Array.getD_eq_getD_getElem?, Array.getElem?_setIfInBounds_ne hsd]
  · intro j oj hj hl k hk
    have hk2 : listed.getD k false = true := by
      by_cases hji : j = i
      · subst hji
        obtain rfl : o = oj := by rw [hi] at hj; exact Option.some.inj hj
        exact hne k hk
      · rw [hgj j hji] at hl
        exact hI.2.2.1 j oj hj hl k hk
    by_cases hki : k = i
    · subst hki; exact hgi
    · rw [hgj k hki]; exact hk2
  · have hi2 : wr i ≠ true := fun e => by
      have := hu i e
      rw [hgi] at this; cases this
    rw [if_neg hi2] at hw
    refine htrS _ _ _ (hI.2.2.2 fun j hj => ?_) hw
    have h2 := hu j hj
    by_cases hji : j = i
    · subst hji; exact absurd hj hi2
    · rwa [hgj j hji] at h2

theorem wpAny_specM (h : specOkM md ops n = true) (hn : a0.tmps.size = n) (htr : ∀ x y z, Le x y → Le y z → Le x z) (hm : ∀ j v x y, Le x y → Sp j v x → Sp j v y) (hrf : ∀ x, LeS x x) (hle : ∀ x y, LeS x y → Le x y) (htrS : ∀ x y z, LeS x y → LeS y z → LeS x z)
    (hst : ∀ i o, ops[i]? = some o → StepOkM P md ops Q LeS Le wr Sp a0 w0 i o) (hQ : ∀ a w, Le w0 w → Kept ops a0 a → (∀ j oj, ops[j]? = some oj → Sp j (valOf oj a) w) → Q .normal a w) :
    ∀ (fuel : Nat) (listed : Array Bool) (a : Act) (w : World), listed.toList.countP (· == false) ≤ fuel → SpecAtM md LeS Le wr ops Sp a0 w0 listed a w → wpAny P md ops Q fuel listed a w := by
  have fin : ∀ (listed : Array Bool) (a : Act) (w : World), Region.ready md ops listed = [] → SpecAtM md LeS Le wr ops Sp a0 w0 listed a w → Q .normal a w := by
    intro listed a w hr hI
    exact hQ a w hI.1.2.1 hI.1.2.2.1 fun j oj hj => hI.1.2.2.2 j oj hj (all_listedM h hI.1.1 hr j (Array.getElem?_eq_some_iff.1 hj).1)
  have rdy : ∀ (listed : Array Bool) (i : Nat), i ∈ Region.ready md ops listed → ∃ o, ops[i]? = some o ∧ listed.getD i true = false ∧ ∀ e ∈ o.after, Region.binds md e = true → listed.getD e.on false = true := by
    intro listed i hi
    unfold Region.ready at hi
    obtain ⟨h1, h2⟩ := List.mem_filter.1 hi
    have hlt := List.mem_range.1 h1
    rw [Array.getElem?_eq_getElem hlt] at h2 ⊢
    simp only [Option.map_some, Option.getD_some, Bool.and_eq_true, Bool.not_eq_true'] at h2
    refine ⟨_, rfl, h2.1, fun e he hb => ?_⟩
    have := Array.all_eq_true_iff_forall_mem.1 h2.2 e he
    simpa [hb] using this
  intro fuel
  induction fuel with
  | zero =>
    intro listed a w hc hI
    have hr : Region.ready md ops listed = [] := by
      cases hr : Region.ready md ops listed with
      | nil => rfl
      | cons i r =>
        obtain ⟨o, ho, hl, -⟩ := rdy listed i (by rw [hr]; exact List.mem_cons_self ..)
        have hlt : i < listed.size := by
          by_cases hlt : i < listed.size
          · exact hlt
          · simp [Array.getD, hlt] at hl
        have hz : listed.toList.countP (· == false) = 0 := by omega
        rw [List.countP_eq_zero] at hz
        have := hz listed[i] (by simp)
        simp [Array.getD, hlt] at hl
        rw [hl] at this
        simp at this
    exact ⟨hr, fin _ _ _ hr hI⟩
  | succ fuel ih =>
    intro listed a w hc hI
    refine ⟨fun hr => fin _ _ _ hr hI, fun i hi => ?_⟩
    obtain ⟨o, ho, hl, haft⟩ := rdy listed i hi
    have hlt : i < listed.size := by
      by_cases hlt : i < listed.size
      · exact hlt
      · simp [Array.getD, hlt] at hl
    have hli : listed[i] = false := by simpa [Array.getD, hlt] using hl
    have hc2 : (listed.setIfInBounds i true).toList.countP (· == false) ≤ fuel := by
      rw [Array.toList_setIfInBounds, List.countP_set (by simpa using hlt)]
      have : listed.toList[i]'(by simpa using hlt) = false := by simpa using hli
      rw [this, if_pos (show (false == false) = true from rfl), if_neg (show ¬ (true == false) = true by decide)]
      omega
    have hnn : ∀ k, needs md o k = true → listed.getD k false = true := fun k hnd => by
      unfold needs at hnd
      obtain ⟨e, he, hb⟩ := List.any_eq_true.1 hnd
      simp only [Bool.and_eq_true, beq_iff_eq] at hb
      rw [← hb.2]; exact haft e (Array.mem_toList_iff.1 he) hb.1
    have hs := hst i o ho a w hI.1.2.1 (hI.strong (by simp [Array.getD, hlt, hli])) hI.1.2.2.1 (hI.late (by simp [Array.getD, hlt, hli])) (fun j oj hj hnd => by
      unfold needs at hnd
      obtain ⟨e, he, hb⟩ := List.any_eq_true.1 hnd
      simp only [Bool.and_eq_true, beq_iff_eq] at hb
      exact hI.1.2.2.2 j oj hj (by rw [← hb.2]; exact haft e (Array.mem_toList_iff.1 he) hb.1))
    unfold wpOp
    rw [ho]
    simp only
    by_cases hw : Region.wanted o (yielded ops a.tmps) = true
    · rw [if_pos hw] at hs ⊢
      exact Or.inl (hs _ fun v w' hww hv => ih _ _ _ hc2 (specAtM_put h hn htr hm ho hI hle htrS hww hv hlt hnn))
    · rw [if_neg hw] at hs ⊢
      exact ih _ _ _ hc2 (specAtM_put h hn htr hm ho hI hle htrS (by split <;> first | exact hle _ _ (hrf w) | exact hrf w) (by rw [vOf_undef]; exact hs) hlt hnn)

/-- the law: a region that draws its order -/
theorem wp_region_specM {id : Nat} (hmx : P.follows .mixedOrders = true) (h : specOkM .any ops a0.tmps.size = true) (htr : ∀ x y z, Le x y → Le y z → Le x z) (hm : ∀ j v x y, Le x y → Sp j v x → Sp j v y) (hrf : ∀ x, LeS x x) (hle : ∀ x y, LeS x y → Le x y) (htrS : ∀ x y z, LeS x y → LeS y z → LeS x z)
    (hst : ∀ i o, ops[i]? = some o → StepOkM P .any ops Q LeS Le wr Sp a0 w0.drew i o) (hQ : ∀ a w, Le w0.drew w → Kept ops a0 a → (∀ j oj, ops[j]? = some oj → Sp j (valOf oj a) w) → Q .normal a w) :
    (Code.region id ops true).wp P Q a0 w0 := by
  refine wp_region_any hmx (wpAny_specM h rfl htr hm hrf hle htrS hst hQ _ _ _ _ ?_ ⟨⟨by simp, hle _ _ (hrf _), ⟨rfl, rfl, fun _ _ => rfl⟩, ?_⟩, fun _ _ => rfl, fun j oj hj hl => ?_, fun _ => hrf _⟩)
  · simpa using List.countP_le_length (p := (· == false)) (l := List.replicate ops.size false)
  · intro j oj hj hl
    simp [Array.getD] at hl
  · simp [Array.getD] at hl

theorem stepOkM_val {i : Nat} {o : Oper} (hwr : wr i = false) (h : ∀ a w, Le w0 w → (strongB md ops wr i = true → LeS w0 w) → Kept ops a0 a → LateM md ops a0 a i → (∀ j oj, ops[j]? = some oj → needs md o j = true → Sp j (valOf oj a) w) → Region.wanted o (yielded ops a.tmps) = true ∧ ∃ v w', (execOp a.eval o).run P w = .ok (.value v) w' ∧ LeS w w' ∧ Sp i (vOf o v) w') : StepOkM P md ops Q LeS Le wr Sp a0 w0 i o := by
  intro a w hle hls hk hq hp
  obtain ⟨hw, v, w', hrun, hl, hs⟩ := h a w hle hls hk hq hp
  rw [if_pos hw]
  intro K hK
  unfold Oper.wp
  rw [hrun]
  exact hK v w' (by rw [hwr]; exact hl) hs
theorem stepOkM_valW {i : Nat} {o : Oper} (hwr : wr i = true) (h : ∀ a w, Le w0 w → (strongB md ops wr i = true → LeS w0 w) → Kept ops a0 a → LateM md ops a0 a i → (∀ j oj, ops[j]? = some oj → needs md o j = true → Sp j (valOf oj a) w) → Region.wanted o (yielded ops a.tmps) = true ∧ ∃ v w', (execOp a.eval o).run P w = .ok (.value v) w' ∧ Le w w' ∧ Sp i (vOf o v) w') : StepOkM P md ops Q LeS Le wr Sp a0 w0 i o := by
  intro a w hle hls hk hq hp
  obtain ⟨hw, v, w', hrun, hl, hs⟩ := h a w hle hls hk hq hp
  rw [if_pos hw]
  intro K hK
  unfold Oper.wp
  rw [hrun]
  exact hK v w' (by rw [hwr]; exact hl) hs
theorem stepOkM_do {i : Nat} {o : Oper} (hwr : wr i = false) (h : ∀ a w, Le w0 w → (strongB md ops wr i = true → LeS w0 w) → Kept ops a0 a → LateM md ops a0 a i → (∀ j oj, ops[j]? = some oj → needs md o j = true → Sp j (valOf oj a) w) → Region.wanted o (yielded ops a.tmps) = true ∧ ∃ w', (execOp a.eval o).run P w = .ok .skip w' ∧ LeS w w' ∧ Sp i undef w') : StepOkM P md ops Q LeS Le wr Sp a0 w0 i o := by
  intro a w hle hls hk hq hp
  obtain ⟨hw, w', hrun, hl, hs⟩ := h a w hle hls hk hq hp
  rw [if_pos hw]
  intro K hK
  unfold Oper.wp
  rw [hrun]
  exact hK undef w' (by rw [hwr]; exact hl) (by rw [vOf_undef]; exact hs)
theorem stepOkM_doW {i : Nat} {o : Oper} (hwr : wr i = true) (h : ∀ a w, Le w0 w → (strongB md ops wr i = true → LeS w0 w) → Kept ops a0 a → LateM md ops a0 a i → (∀ j oj, ops[j]? = some oj → needs md o j = true → Sp j (valOf oj a) w) → Region.wanted o (yielded ops a.tmps) = true ∧ ∃ w', (execOp a.eval o).run P w = .ok .skip w' ∧ Le w w' ∧ Sp i undef w') : StepOkM P md ops Q LeS Le wr Sp a0 w0 i o := by
  intro a w hle hls hk hq hp
  obtain ⟨hw, w', hrun, hl, hs⟩ := h a w hle hls hk hq hp
  rw [if_pos hw]
  intro K hK
  unfold Oper.wp
  rw [hrun]
  exact hK undef w' (by rw [hwr]; exact hl) (by rw [vOf_undef]; exact hs)
theorem stepOkM_call {i : Nat} {o : Oper} (hwr : wr i = false) (h : ∀ a w, Le w0 w → (strongB md ops wr i = true → LeS w0 w) → Kept ops a0 a → LateM md ops a0 a i → (∀ j oj, ops[j]? = some oj → needs md o j = true → Sp j (valOf oj a) w) → Region.wanted o (yielded ops a.tmps) = true ∧ ∃ f args, (execOp a.eval o).run P w = .ok (.enter f args) w ∧ Calls P f args w fun e w' => ∃ v, e = .returned v ∧ LeS w w' ∧ Sp i (vOf o v) w') : StepOkM P md ops Q LeS Le wr Sp a0 w0 i o := by
  intro a w hle hls hk hq hp
  obtain ⟨hw, f, args, hrun, hc⟩ := h a w hle hls hk hq hp
  rw [if_pos hw]
  intro K hK
  unfold Oper.wp
  rw [hrun]
  refine hc.mono fun e w' ⟨v, he, hl, hs⟩ => ?_
  subst he
  exact hK v w' (by rw [hwr]; exact hl) hs
theorem stepOkM_callW {i : Nat} {o : Oper} (hwr : wr i = true) (h : ∀ a w, Le w0 w → (strongB md ops wr i = true → LeS w0 w) → Kept ops a0 a → LateM md ops a0 a i → (∀ j oj, ops[j]? = some oj → needs md o j = true → Sp j (valOf oj a) w) → Region.wanted o (yielded ops a.tmps) = true ∧ ∃ f args, (execOp a.eval o).run P w = .ok (.enter f args) w ∧ Calls P f args w fun e w' => ∃ v, e = .returned v ∧ Le w w' ∧ Sp i (vOf o v) w') : StepOkM P md ops Q LeS Le wr Sp a0 w0 i o := by
  intro a w hle hls hk hq hp
  obtain ⟨hw, f, args, hrun, hc⟩ := h a w hle hls hk hq hp
  rw [if_pos hw]
  intro K hK
  unfold Oper.wp
  rw [hrun]
  refine hc.mono fun e w' ⟨v, he, hl, hs⟩ => ?_
  subst he
  exact hK v w' (by rw [hwr]; exact hl) hs
/-- all operations, one by one -/
def AllStepsM (P : Program) (md : Region.Mode) (ops : Array Oper) (Q : Exit → Act → World → Prop) (LeS Le : World → World → Prop) (wr : Nat → Bool) (Sp : Nat → Value → World → Prop) (a0 : Act) (w0 : World) : Nat → List Oper → Prop
  | _, [] => True
  | k, o :: r => StepOkM P md ops Q LeS Le wr Sp a0 w0 k o ∧ AllStepsM P md ops Q LeS Le wr Sp a0 w0 (k + 1) r
theorem allStepsM_at : ∀ (l : List Oper) (k : Nat), AllStepsM P md ops Q LeS Le wr Sp a0 w0 k l → ∀ i o, l[i]? = some o → StepOkM P md ops Q LeS Le wr Sp a0 w0 (k + i) o
  | [], _, _, i, o, h => by simp at h
  | x :: r, k, hh, 0, o, h => by obtain rfl : x = o := by simpa using h
                                 exact hh.1
  | x :: r, k, hh, i + 1, o, h => by
    have := allStepsM_at r (k + 1) hh.2 i o (by simpa using h)
    rwa [Nat.add_assoc, Nat.add_comm 1 i] at this
theorem wp_region_specM_lit {id : Nat} {l : List Oper} (hmx : P.follows .mixedOrders = true) (h : specOkM .any l.toArray a0.tmps.size = true) (htr : ∀ x y z, Le x y → Le y z → Le x z) (hm : ∀ j v x y, Le x y → Sp j v x → Sp j v y) (hrf : ∀ x, LeS x x) (hle : ∀ x y, LeS x y → Le x y) (htrS : ∀ x y z, LeS x y → LeS y z → LeS x z)
    (hst : AllStepsM P .any l.toArray Q LeS Le wr Sp a0 w0.drew 0 l) (hQ : ∀ a w, Le w0.drew w → Kept l.toArray a0 a → (∀ j oj, l.toArray[j]? = some oj → Sp j (valOf oj a) w) → Q .normal a w) :
    (Code.region id l.toArray true).wp P Q a0 w0 :=
  wp_region_specM hmx h htr hm hrf hle htrS (fun i o hi => by have := allStepsM_at l 0 hst i o (by simpa using hi); rwa [Nat.zero_add] at this) hQ
theorem late_evalM {a a0 : Act} {s i : Nat} (h : LateM md ops a0 a i) (hs : (ops.toList.all fun oj => oj.dst != some s || needs md oj i) = true) : a.eval (.tmp s) = a0.tmps.getD s undef := by
  refine h s fun j oj hj hd => ?_
  have := List.all_eq_true.1 hs oj (Array.mem_of_getElem? hj).val
  rw [hd] at this
  simpa using this
end
end Go.Own
