/- canarymade.Source: Request. -/
import Derived.Test.YtglljdhhgmgbgaaDoorSrcB
import Derived.Test.YtglljdhhgmgbgaaDoorLineR
import Derived.Test.YtglljdhhgmgbgaaDoorPA
import Derived.Test.YtglljdhhgmgbgaaDoorPB
import Derived.Deep.DeepCutAuto
import Derived.Deep.CutBlock
import Derived.Deep.Onto
namespace Go.Proofs.YtglljdhhgmgbgaaDoor
open Go.RowKit Go.Own
set_option linter.unusedVariables false
set_option maxHeartbeats 1000000

def reqMs : List ByteArray := [⟨#[71, 69, 84]⟩, ⟨#[71, 69, 84]⟩, ⟨#[80, 79, 83, 84]⟩, ⟨#[72, 69, 65, 68]⟩, ⟨#[80, 85, 84]⟩]
def reqTs : List ByteArray := [⟨#[47]⟩, ⟨#[47, 97, 63, 98]⟩, ⟨#[47, 114, 111, 108, 108, 111, 117, 116]⟩, ⟨#[47, 114, 101, 112, 111, 114, 116, 115]⟩]
theorem reqMs_ok : ∀ x ∈ reqMs, token (bl x) = true ∧ x.size ≤ 4 := by decide +kernel
theorem reqTs_ok : ∀ x ∈ reqTs, targetB x = true ∧ x.size ≤ 8 := by decide +kernel
def nameHost : ByteArray := ⟨#[72, 111, 115, 116]⟩
def hostF : Fld := ⟨nameHost, ⟨#[104]⟩⟩
def noHost (f : Fld) : Bool := !foldB f.name nameHost
/-- a field of a made request -/
def MadeQ (f : Fld) : Prop := validF f = true ∧ f.name.size ≤ 15 ∧ f.val.size ≤ 28
/-- the fields of a made request: one Host -/
def MadeX (x : List Fld) (n : Nat) : Prop := (∀ f ∈ x, MadeQ f) ∧ x.length ≤ n ∧ (x.filter fun f => !noHost f).length = 1
theorem made_no : ∀ n ∈ madeNames, foldB n nameHost = false := by decide +kernel
theorem MadeX.host {x : List Fld} {n : Nat} (h : ∀ f ∈ x, MadeF f) (hn : x.length ≤ n) : MadeX (x ++ [hostF]) (n + 1) := by
  refine ⟨?_, by simp; omega, ?_⟩
  · intro f hf
    rcases List.mem_append.1 hf with h1 | h1
    · exact ⟨(h f h1).1, (h f h1).2.1, (h f h1).2.2.1⟩
    · rw [List.mem_singleton] at h1; subst h1; exact ⟨by decide +kernel, by decide, by decide⟩
  · rw [List.filter_append, List.filter_eq_nil_iff.2 (by intro f hf; simp [noHost, made_no f.name (h f hf).2.2.2])]
    have : (!noHost hostF) = true := by decide +kernel
    simp [this]
theorem MadeX.more {x : List Fld} {n : Nat} {f : Fld} (h : MadeX x n) (hf : MadeQ f) (hn : noHost f = true) : MadeX (x ++ [f]) (n + 1) := by
  obtain ⟨h1, h2, h3⟩ := h
  refine ⟨?_, by simp; omega, ?_⟩
  · intro g hg
    rcases List.mem_append.1 hg with h | h
    · exact h1 g h
    · rw [List.mem_singleton] at h; subst h; exact hf
  · rw [List.filter_append, List.length_append, h3]; simp [hn]
theorem MadeX.le {x : List Fld} {n m : Nat} (h : MadeX x n) (hm : n ≤ m) : MadeX x m := ⟨h.1, Nat.le_trans h.2.1 hm, h.2.2⟩
def expF : Fld := ⟨⟨#[69, 120, 112, 101, 99, 116]⟩, ⟨#[49, 48, 48, 45, 99, 111, 110, 116, 105, 110, 117, 101]⟩⟩
theorem expF_ok : MadeQ expF ∧ noHost expF = true := ⟨⟨by decide +kernel, by decide, by decide⟩, by decide +kernel⟩
def cohortB : ByteArray := ⟨#[99, 111, 104, 111, 114, 116, 61]⟩
def cookB : ByteArray := ⟨#[67, 111, 111, 107, 105, 101]⟩
theorem cookB_ok : token (bl cookB) = true ∧ foldB cookB nameHost = false ∧ cookB.size = 6 := by decide +kernel
def cookF (n : Nat) : Fld := ⟨cookB, cohortB ++ idOf n⟩
theorem hex_vis {c : UInt8} (h : hexc c = true) : visB c = true := by
  simp only [hexc, digitB, Bool.or_eq_true, Bool.and_eq_true, decide_eq_true_eq] at h
  simp [visB]; omega
theorem cookF_ok (n : Nat) : MadeQ (cookF n) ∧ noHost (cookF n) = true := by
  refine ⟨⟨?_, by show cookB.size ≤ 15; rw [cookB_ok.2.2]; omega, ?_⟩, by show (!foldB cookB nameHost) = true; rw [cookB_ok.2.1]; rfl⟩
  · unfold validF
    have ht : token (bl (cookF n).name) = true := cookB_ok.1
    rw [ht, Bool.true_and]
    have hb : bl (cookF n).val = 99 :: [111, 104, 111, 114, 116] ++ 61 :: bl (idOf n) := by
      show bl (cohortB ++ idOf n) = _
      unfold bl; rw [ByteArray.data_append, Array.toList_append]; rfl
    rw [hb]
    have hx := idOf_all n
    unfold value
    rw [trim_named (by decide), trimR_hex hx]
    simp only [List.all_append, List.all_cons, List.all_nil, Bool.and_true, beq_self_eq_true, Bool.and_eq_true]
    refine ⟨⟨by decide, by decide⟩, by decide, ?_⟩
    rw [List.all_eq_true] at hx ⊢
    intro c hc
    exact hex_vis (hx c hc)
  · show (cohortB ++ idOf n).size ≤ 28
    rw [ByteArray.size_append, idOf_size]
    exact (by decide : (7 : Nat) + 16 ≤ 28)

/-- a struct of 6 cells is stored into the result's block, and the call returns -/
theorem fin6g {P : Program} {fn : Func} {R : Ending → World → Prop} {a : Act} {w1 : World} {g : Nat} {x0 x1 x2 x3 x4 x5 y0 y1 y2 y3 y4 y5 : Value} {T : TypeId} (mk : Value → Value) (h : w1.heap[g]? = some (.cells #[x0, x1, x2, x3, x4, x5] T)) 
    (hres : ∀ w2 : World, w2.cell? ⟨g, 0, none⟩ = some y0 → w2.cell? ⟨g, 1, none⟩ = some y1 → w2.cell? ⟨g, 2, none⟩ = some y2 → w2.cell? ⟨g, 3, none⟩ = some y3 → w2.cell? ⟨g, 4, none⟩ = some y4 → w2.cell? ⟨g, 5, none⟩ = some y5 → (results fn a.tmps).run P w2 = .ok (mk (.agg #[y0, y1, y2, y3, y4, y5])) w2) (hd : a.defers = []) (hR : ∀ w2 : World, w1.grownBy w2 (some g) → R (.returned (mk (.agg #[y0, y1, y2, y3, y4, y5]))) w2) :
    bodyPost P fn R .ret a ((((((w1.setCell ⟨g, 0, none⟩ y0).setCell ⟨g, 1, none⟩ y1).setCell ⟨g, 2, none⟩ y2).setCell ⟨g, 3, none⟩ y3).setCell ⟨g, 4, none⟩ y4).setCell ⟨g, 5, none⟩ y5) := by
  have h0 := h
  have h1 : ((w1).setCell ⟨g, 0, none⟩ y0).heap[g]? = some (.cells #[y0, x1, x2, x3, x4, x5] T) := (heap_setCell_same (w1) g 0 _ _ _ h0).trans (by simp)
  have h2 : (((w1).setCell ⟨g, 0, none⟩ y0).setCell ⟨g, 1, none⟩ y1).heap[g]? = some (.cells #[y0, y1, x2, x3, x4, x5] T) := (heap_setCell_same ((w1).setCell ⟨g, 0, none⟩ y0) g 1 _ _ _ h1).trans (by simp)
  have h3 : ((((w1).setCell ⟨g, 0, none⟩ y0).setCell ⟨g, 1, none⟩ y1).setCell ⟨g, 2, none⟩ y2).heap[g]? = some (.cells #[y0, y1, y2, x3, x4, x5] T) := (heap_setCell_same (((w1).setCell ⟨g, 0, none⟩ y0).setCell ⟨g, 1, none⟩ y1) g 2 _ _ _ h2).trans (by simp)
  have h4 : (((((w1).setCell ⟨g, 0, none⟩ y0).setCell ⟨g, 1, none⟩ y1).setCell ⟨g, 2, none⟩ y2).setCell ⟨g, 3, none⟩ y3).heap[g]? = some (.cells #[y0, y1, y2, y3, x4, x5] T) := (heap_setCell_same ((((w1).setCell ⟨g, 0, none⟩ y0).setCell ⟨g, 1, none⟩ y1).setCell ⟨g, 2, none⟩ y2) g 3 _ _ _ h3).trans (by simp)
  have h5 : ((((((w1).setCell ⟨g, 0, none⟩ y0).setCell ⟨g, 1, none⟩ y1).setCell ⟨g, 2, none⟩ y2).setCell ⟨g, 3, none⟩ y3).setCell ⟨g, 4, none⟩ y4).heap[g]? = some (.cells #[y0, y1, y2, y3, y4, x5] T) := (heap_setCell_same (((((w1).setCell ⟨g, 0, none⟩ y0).setCell ⟨g, 1, none⟩ y1).setCell ⟨g, 2, none⟩ y2).setCell ⟨g, 3, none⟩ y3) g 4 _ _ _ h4).trans (by simp)
  have h6 : (((((((w1).setCell ⟨g, 0, none⟩ y0).setCell ⟨g, 1, none⟩ y1).setCell ⟨g, 2, none⟩ y2).setCell ⟨g, 3, none⟩ y3).setCell ⟨g, 4, none⟩ y4).setCell ⟨g, 5, none⟩ y5).heap[g]? = some (.cells #[y0, y1, y2, y3, y4, y5] T) := (heap_setCell_same ((((((w1).setCell ⟨g, 0, none⟩ y0).setCell ⟨g, 1, none⟩ y1).setCell ⟨g, 2, none⟩ y2).setCell ⟨g, 3, none⟩ y3).setCell ⟨g, 4, none⟩ y4) g 5 _ _ _ h5).trans (by simp)
  have hb : w1.grownBy (((((((w1.setCell ⟨g, 0, none⟩ y0).setCell ⟨g, 1, none⟩ y1).setCell ⟨g, 2, none⟩ y2).setCell ⟨g, 3, none⟩ y3).setCell ⟨g, 4, none⟩ y4).setCell ⟨g, 5, none⟩ y5)) (some g) :=
    grownBy_trans (grownBy_trans (grownBy_trans (grownBy_trans (grownBy_trans (grown_set _ g 0 _) (grown_set _ g 1 _)) (grown_set _ g 2 _)) (grown_set _ g 3 _)) (grown_set _ g 4 _)) (grown_set _ g 5 _)
  have hh : (((((((w1.setCell ⟨g, 0, none⟩ y0).setCell ⟨g, 1, none⟩ y1).setCell ⟨g, 2, none⟩ y2).setCell ⟨g, 3, none⟩ y3).setCell ⟨g, 4, none⟩ y4).setCell ⟨g, 5, none⟩ y5)).heap[g]? = some (.cells #[y0, y1, y2, y3, y4, y5] T) := h6
  generalize ((((((w1.setCell ⟨g, 0, none⟩ y0).setCell ⟨g, 1, none⟩ y1).setCell ⟨g, 2, none⟩ y2).setCell ⟨g, 3, none⟩ y3).setCell ⟨g, 4, none⟩ y4).setCell ⟨g, 5, none⟩ y5) = w2 at hh hb ⊢
  obtain ⟨⟨c0, c1, c2, c3, c4, c5⟩, -, -⟩ := row6 hh
  exact bodyPost_ret (hres w2 c0 c1 c2 c3 c4 c5) hd (hR w2 hb)

theorem str2_one (a b : ByteArray) : ∀ u ∈ [Value.string a, Value.string b], u.oneCell' = true := by
  intro u hu
  rcases List.mem_cons.1 hu with rfl | hu
  · rfl
  · rw [List.mem_singleton] at hu; subst hu; rfl
/-- a made request -/
def MadeR (m t : ByteArray) (n : Int) (x : List Fld) (fr : Bool) (b : List UInt8) : Prop := (m ∈ reqMs ∧ t ∈ reqTs ∧ (n = 0 ∨ n = 1)) ∧ MadeX x 6 ∧ b.length ≤ 30



end Go.Proofs.YtglljdhhgmgbgaaDoor