/- canarymade.Source: Request. -/
import Derived.Test.YtfmokccoilgpmaaGreatDoorSrcB
import Derived.Test.YtfmokccoilgpmaaGreatDoorLineR
import Derived.Test.YtfmokccoilgpmaaGreatDoorPA
import Derived.Test.YtfmokccoilgpmaaGreatDoorPB
import Derived.Deep.DeepCutAuto
import Derived.Deep.CutBlock
import Derived.Deep.Onto
namespace Go.Proofs.YtfmokccoilgpmaaGreatDoor
open Go.RowKit Go.Own
set_option linter.unusedVariables false
set_option maxHeartbeats 1000000

def reqMs : List ByteArray := [⟨#[71, 69, 84]⟩, ⟨#[71, 69, 84]⟩, ⟨#[80, 79, 83, 84]⟩, ⟨#[72, 69, 65, 68]⟩, ⟨#[80, 85, 84]⟩]
def reqTs : List ByteArray := [⟨#[47]⟩, ⟨#[47, 97, 63, 98]⟩, ⟨#[47, 114, 111, 108, 108, 111, 117, 116]⟩, ⟨#[47, 114, 101, 112, 111, 114, 116, 115]⟩]
theorem reqMs_ok : ∀ x ∈ reqMs, token (bl x) = true ∧ x.size ≤ 4 := by decide +kernel
theorem reqTs_ok : ∀ x ∈ reqTs, targetB x = true ∧ x.size ≤ 8 := by decide +kernel
def nameHost : ByteArray := ⟨#[72, 111, 115, 116]⟩
def hostF : Fld := ⟨nameHost, ⟨#[104]⟩⟩
def noHost (f : Fld) : Bool := !foldB f.name nameHost
/-- a field of a made request -/
def MadeQ (f : Fld) : Prop := validF f = true ∧ f.name.size ≤ 15 ∧ f.val.size ≤ 28
/-- the fields of a made request: one Host -/
def MadeX (x : List Fld) (n : Nat) : Prop := (∀ f ∈ x, MadeQ f) ∧ x.length ≤ n ∧ (x.filter fun f => !noHost f).length = 1
theorem made_no : ∀ n ∈ madeNames, foldB n nameHost = false := by decide +kernel
theorem MadeX.host {x : List Fld} {n : Nat} (h : ∀ f ∈ x, MadeF f) (hn : x.length ≤ n) : MadeX (x ++ [hostF]) (n + 1) := by
  refine ⟨?_, by simp; omega, ?_⟩
  · intro f hf
    rcases List.mem_append.1 hf with h1 | h1
    · exact ⟨(h f h1).1, (h f h1).2.1, (h f h1).2.2.1⟩
    · rw [List.mem_singleton] at h1; subst h1; exact ⟨by decide +kernel, by decide, by decide⟩
  · rw [List.filter_append, List.filter_eq_nil_iff.2 (by intro f hf; simp [noHost, made_no f.name (h f hf).2.2.2])]
    have : (!noHost hostF) = true := by decide +kernel
    simp [this]
theorem MadeX.more {x : List Fld} {n : Nat} {f : Fld} (h : MadeX x n) (hf : MadeQ f) (hn : noHost f = true) : MadeX (x ++ [f]) (n + 1) := by
  obtain ⟨h1, h2, h3⟩ := h
  refine ⟨?_, by simp; omega, ?_⟩
  · intro g hg
    rcases List.mem_append.1 hg with h | h
    · exact h1 g h
    · rw [List.mem_singleton] at h; subst h; exact hf
  · rw [List.filter_append, List.length_append, h3]; simp [hn]
theorem MadeX.le {x : List Fld} {n m : Nat} (h : MadeX x n) (hm : n ≤ m) : MadeX x m := ⟨h.1, Nat.le_trans h.2.1 hm, h.2.2⟩
def expF : Fld := ⟨⟨#[69, 120, 112, 101, 99, 116]⟩, ⟨#[49, 48, 48, 45, 99, 111, 110, 116, 105, 110, 117, 101]⟩⟩
theorem expF_ok : MadeQ expF ∧ noHost expF = true := ⟨⟨by decide +kernel, by decide, by decide⟩, by decide +kernel⟩
def cohortB : ByteArray := ⟨#[99, 111, 104, 111, 114, 116, 61]⟩
def cookB : ByteArray := ⟨#[67, 111, 111, 107, 105, 101]⟩
theorem cookB_ok : token (bl cookB) = true ∧ foldB cookB nameHost = false ∧ cookB.size = 6 := by decide +kernel
def cookF (n : Nat) : Fld := ⟨cookB, cohortB ++ idOf n⟩
theorem hex_vis {c : UInt8} (h : hexc c = true) : visB c = true := by
  simp only [hexc, digitB, Bool.or_eq_true, Bool.and_eq_true, decide_eq_true_eq] at h
  simp [visB]; omega
theorem cookF_ok (n : Nat) : MadeQ (cookF n) ∧ noHost (cookF n) = true := by
  refine ⟨⟨?_, by show cookB.size ≤ 15; rw [cookB_ok.2.2]; omega, ?_⟩, by show (!foldB cookB nameHost) = true; rw [cookB_ok.2.1]; rfl⟩
  · unfold validF
    have ht : token (bl (cookF n).name) = true := cookB_ok.1
    rw [ht, Bool.true_and]
    have hb : bl (cookF n).val = 99 :: [111, 104, 111, 114, 116] ++ 61 :: bl (idOf n) := by
      show bl (cohortB ++ idOf n) = _
      unfold bl; rw [ByteArray.data_append, Array.toList_append]; rfl
    rw [hb]
    have hx := idOf_all n
    unfold value
    rw [trim_named (by decide), trimR_hex hx]
    simp only [List.all_append, List.all_cons, List.all_nil, Bool.and_true, beq_self_eq_true, Bool.and_eq_true]
    refine ⟨⟨by decide, by decide⟩, by decide, ?_⟩
    rw [List.all_eq_true] at hx ⊢
    intro c hc
    exact hex_vis (hx c hc)
  · show (cohortB ++ idOf n).size ≤ 28
    rw [ByteArray.size_append, idOf_size]
    exact (by decide : (7 : Nat) + 16 ≤ 28)

/-- a struct of 6 cells is stored into the result's block, and the call returns -/
theorem fin6g {P : Program} {fn : Func} {R : Ending → World → Prop} {a : Act} {w1 : World} {g : Nat} {x0 x1 x2 x3 x4 x5 y0 y1 y2 y3 y4 y5 : Value} {T : TypeId} (mk : Value → Value) (h : w1.heap[g]? = some (.cells #[x0, x1, x2, x3, x4, x5] T)) 
    (hres : ∀ w2 : World, w2.cell? ⟨g, 0, none⟩ = some y0 → w2.cell? ⟨g, 1, none⟩ = some y1 → w2.cell? ⟨g, 2, none⟩ = some y2 → w2.cell? ⟨g, 3, none⟩ = some y3 → w2.cell? ⟨g, 4, none⟩ = some y4 → w2.cell? ⟨g, 5, none⟩ = some y5 → (results fn a.tmps).run P w2 = .ok (mk (.agg #[y0, y1, y2, y3, y4, y5])) w2) (hd : a.defers = []) (hR : ∀ w2 : World, w1.grownBy w2 (some g) → R (.returned (mk (.agg #[y0, y1, y2, y3, y4, y5]))) w2) :
    bodyPost P fn R .ret a ((((((w1.setCell ⟨g, 0, none⟩ y0).setCell ⟨g, 1, none⟩ y1).setCell ⟨g, 2, none⟩ y2).setCell ⟨g, 3, none⟩ y3).setCell ⟨g, 4, none⟩ y4).setCell ⟨g, 5, none⟩ y5) := by
  have h0 := h
  have h1 : ((w1).setCell ⟨g, 0, none⟩ y0).heap[g]? = some (.cells #[y0, x1, x2, x3, x4, x5] T) := (heap_setCell_same (w1) g 0 _ _ _ h0).trans (by simp)
  have h2 : (((w1).setCell ⟨g, 0, none⟩ y0).setCell ⟨g, 1, none⟩ y1).heap[g]? = some (.cells #[y0, y1, x2, x3, x4, x5] T) := (heap_setCell_same ((w1).setCell ⟨g, 0, none⟩ y0) g 1 _ _ _ h1).trans (by simp)
  have h3 : ((((w1).setCell ⟨g, 0, none⟩ y0).setCell ⟨g, 1, none⟩ y1).setCell ⟨g, 2, none⟩ y2).heap[g]? = some (.cells #[y0, y1, y2, x3, x4, x5] T) := (heap_setCell_same (((w1).setCell ⟨g, 0, none⟩ y0).setCell ⟨g, 1, none⟩ y1) g 2 _ _ _ h2).trans (by simp)
  have h4 : (((((w1).setCell ⟨g, 0, none⟩ y0).setCell ⟨g, 1, none⟩ y1).setCell ⟨g, 2, none⟩ y2).setCell ⟨g, 3, none⟩ y3).heap[g]? = some (.cells #[y0, y1, y2, y3, x4, x5] T) := (heap_setCell_same ((((w1).setCell ⟨g, 0, none⟩ y0).setCell ⟨g, 1, none⟩ y1).setCell ⟨g, 2, none⟩ y2) g 3 _ _ _ h3).trans (by simp)
  have h5 : ((((((w1).setCell ⟨g, 0, none⟩ y0).setCell ⟨g, 1, none⟩ y1).setCell ⟨g, 2, none⟩ y2).setCell ⟨g, 3, none⟩ y3).setCell ⟨g, 4, none⟩ y4).heap[g]? = some (.cells #[y0, y1, y2, y3, y4, x5] T) := (heap_setCell_same (((((w1).setCell ⟨g, 0, none⟩ y0).setCell ⟨g, 1, none⟩ y1).setCell ⟨g, 2, none⟩ y2).setCell ⟨g, 3, none⟩ y3) g 4 _ _ _ h4).trans (by simp)
  have h6 : (((((((w1).setCell ⟨g, 0, none⟩ y0).setCell ⟨g, 1, none⟩ y1).setCell ⟨g, 2, none⟩ y2).setCell ⟨g, 3, none⟩ y3).setCell ⟨g, 4, none⟩ y4).setCell ⟨g, 5, none⟩ y5).heap[g]? = some (.cells #[y0, y1, y2, y3, y4, y5] T) := (heap_setCell_same ((((((w1).setCell ⟨g, 0, none⟩ y0).setCell ⟨g, 1, none⟩ y1).setCell ⟨g, 2, none⟩ y2).setCell ⟨g, 3, none⟩ y3).setCell ⟨g, 4, none⟩ y4) g 5 _ _ _ h5).trans (by simp)
  have hb : w1.grownBy (((((((w1.setCell ⟨g, 0, none⟩ y0).setCell ⟨g, 1, none⟩ y1).setCell ⟨g, 2, none⟩ y2).setCell ⟨g, 3, none⟩ y3).setCell ⟨g, 4, none⟩ y4).setCell ⟨g, 5, none⟩ y5)) (some g) :=
    grownBy_trans (grownBy_trans (grownBy_trans (grownBy_trans (grownBy_trans (grown_set _ g 0 _) (grown_set _ g 1 _)) (grown_set _ g 2 _)) (grown_set _ g 3 _)) (grown_set _ g 4 _)) (grown_set _ g 5 _)
  have hh : (((((((w1.setCell ⟨g, 0, none⟩ y0).setCell ⟨g, 1, none⟩ y1).setCell ⟨g, 2, none⟩ y2).setCell ⟨g, 3, none⟩ y3).setCell ⟨g, 4, none⟩ y4).setCell ⟨g, 5, none⟩ y5)).heap[g]? = some (.cells #[y0, y1, y2, y3, y4, y5] T) := h6
  generalize ((((((w1.setCell ⟨g, 0, none⟩ y0).setCell ⟨g, 1, none⟩ y1).setCell ⟨g, 2, none⟩ y2).setCell ⟨g, 3, none⟩ y3).setCell ⟨g, 4, none⟩ y4).setCell ⟨g, 5, none⟩ y5) = w2 at hh hb ⊢
  obtain ⟨⟨c0, c1, c2, c3, c4, c5⟩, -, -⟩ := row6 hh
  exact bodyPost_ret (hres w2 c0 c1 c2 c3 c4 c5) hd (hR w2 hb)

/-- where the call of Request stands: block g holds the request, whose body is not made yet -/
def ReqA (w0 : World) (p g : Nat) (l : List Int) (K : List Fld → Prop) (w : World) : Prop :=
  ∃ m t n vf x, w.heap[g]? = some (.cells #[.string m, .string t, .int .i64 n, vf, .bool false, .slice none 0 0] 35) ∧
    w.heap[w0.heap.size]? = some (.cells #[.string .empty, .string .empty, .int .i64 0, .slice none 0 0, .bool false, .slice none 0 0] 35) ∧
    w0.grownBy w (some p) ∧ Src w p l ∧ OwnF (g + 1) w vf x ∧ (m ∈ reqMs ∧ t ∈ reqTs ∧ (n = 0 ∨ n = 1)) ∧ K x
theorem ReqA.src {w0 w w' : World} {p g : Nat} {l : List Int} {K : List Fld → Prop} (h : ReqA w0 p g l K w) (hp : p < w0.heap.size) (hg : w0.heap.size < g) (hgr : w.grownBy w' (some p)) (hs : Src w' p l) : ReqA w0 p g l K w' := by
  obtain ⟨m, t, n, vf, x, h1, h2, h3, h4, h5, h6, h7⟩ := h
  exact ⟨m, t, n, vf, x, grown_at hgr h1 (by omega), grown_at hgr h2 (by omega), grownBy_trans h3 hgr, hs, own_src h5 hgr (by omega), h6, h7⟩
theorem ReqA.le {w0 w : World} {p g : Nat} {l : List Int} {K K' : List Fld → Prop} (h : ReqA w0 p g l K w) (hk : ∀ x, K x → K' x) : ReqA w0 p g l K' w := by
  obtain ⟨m, t, n, vf, x, h1, h2, h3, h4, h5, h6, h7⟩ := h
  exact ⟨m, t, n, vf, x, h1, h2, h3, h4, h5, h6, hk x h7⟩
theorem ReqA.s {w0 w : World} {p g : Nat} {l : List Int} {K : List Fld → Prop} (h : ReqA w0 p g l K w) : Src w p l := by
  obtain ⟨m, t, n, vf, x, h1, h2, h3, h4, h5, h6, h7⟩ := h; exact h4
theorem ReqA.lt {w0 w : World} {p g : Nat} {l : List Int} {K : List Fld → Prop} (h : ReqA w0 p g l K w) : g + 1 ≤ w.heap.size := by
  obtain ⟨m, t, n, vf, x, h1, h2, h3, h4, h5, h6, h7⟩ := h; exact (Array.getElem?_eq_some_iff.1 h1).1
theorem ReqA.cell2 {w0 w : World} {p g : Nat} {l : List Int} {K : List Fld → Prop} (h : ReqA w0 p g l K w) : (∃ n, (n = 0 ∨ n = 1) ∧ w.cell? ⟨g, 2, none⟩ = some (.int .i64 n)) ∧ w.frozen? ⟨g, 2, none⟩ = false := by
  obtain ⟨m, t, n, vf, x, h1, h2, h3, h4, h5, h6, h7⟩ := h
  exact ⟨⟨n, h6.2.2, cell_of_row w g 2 _ _ _ h1⟩, frozen_of_row w g 2 _ _ h1⟩
/-- the cell of the fields, behind a write elsewhere -/
theorem ReqA.cell3 {w0 w w' : World} {p g : Nat} {l : List Int} {K : List Fld → Prop} {r2 : Option Nat} (h : ReqA w0 p g l K w) (hgr : w.grownBy w' r2) (hr : ∀ k, r2 = some k → g < k) : (∃ vf, w'.cell? ⟨g, 3, none⟩ = some vf) ∧ w'.frozen? ⟨g, 3, none⟩ = false := by
  obtain ⟨m, t, n, vf, x, h1, h2, h3, h4, h5, h6, h7⟩ := h
  have k1 : w'.heap[g]? = some (.cells #[.string m, .string t, .int .i64 n, vf, .bool false, .slice none 0 0] 35) := (hgr.block g (Array.getElem?_eq_some_iff.1 h1).1 (by intro e; have := hr g e.symm; omega)).trans h1
  exact ⟨⟨vf, cell_of_row w' g 3 _ _ _ k1⟩, frozen_of_row w' g 3 _ _ k1⟩
theorem ReqA.drew {w0 w : World} {p g : Nat} {l : List Int} {K : List Fld → Prop} (h : ReqA w0 p g l K w) : ReqA w0 p g l K w.drew := by
  obtain ⟨m, t, n, vf, x, h1, h2, h3, h4, h5, h6, h7⟩ := h
  have hb := (Below.refl w.heap.size w).drew
  exact ⟨m, t, n, vf, x, h1, h2, grownBy_trans h3 (grownBy_below hb _), h4.grown hb, h5.below hb, h6, h7⟩
theorem ReqA.fields {w0 w : World} {p g : Nat} {l : List Int} {K : List Fld → Prop} (h : ReqA w0 p g l K w) : ∃ a0 c0, ∃ x : List Fld, w.cell? ⟨g, 3, none⟩ = some (.slice a0 x.length c0) ∧ w.frozen? ⟨g, 3, none⟩ = false ∧ OwnF (g + 1) w (.slice a0 x.length c0) x ∧ K x := by
  obtain ⟨m, t, n, vf, x, h1, h2, h3, h4, h5, h6, h7⟩ := h
  obtain ⟨a0, c0, rfl, -, -, -⟩ := owned_slice h5
  exact ⟨a0, c0, x, cell_of_row w g 3 _ _ _ h1, frozen_of_row w g 3 _ _ h1, h5, h7⟩
theorem ReqA.same3 {w0 w w' : World} {p g : Nat} {l : List Int} {K : List Fld → Prop} {v : Value} (h : ReqA w0 p g l K w) (hp : p < w0.heap.size) (hg : w0.heap.size < g) (hgr : w.grownBy w' (some p)) (hc : w.cell? ⟨g, 3, none⟩ = some v) : w'.cell? ⟨g, 3, none⟩ = some v := by
  obtain ⟨m, t, n, vf, x, h1, h2, h3, h4, h5, h6, h7⟩ := h
  rw [cell_of_row w g 3 _ _ _ h1] at hc
  rw [cell_of_row w' g 3 _ _ _ (grown_at hgr h1 (by omega))]; exact hc
theorem str2_one (a b : ByteArray) : ∀ u ∈ [Value.string a, Value.string b], u.oneCell' = true := by
  intro u hu
  rcases List.mem_cons.1 hu with rfl | hu
  · rfl
  · rw [List.mem_singleton] at hu; subst hu; rfl
theorem ReqA.minor {w0 w : World} {p g : Nat} {l : List Int} {K : List Fld → Prop} (h : ReqA w0 p g l K w) (hp : p < w0.heap.size) (hg : w0.heap.size < g) : ReqA w0 p g l K (w.setCell ⟨g, 2, none⟩ (.int .i64 0)) := by
  obtain ⟨m, t, n, vf, x, h1, h2, h3, h4, h5, h6, h7⟩ := h
  have hgr := grown_set w g 2 (.int .i64 0)
  refine ⟨m, t, 0, vf, x, (heap_setCell_same w g 2 _ _ _ h1).trans (by simp), (hgr.block _ (Array.getElem?_eq_some_iff.1 h2).1 (by simp; omega)).trans h2, grownBy_own h3 hgr (by intro k hk; have := Option.some.inj hk; omega), src_own h4 hgr (by intro k hk; have := Option.some.inj hk; omega), ownsRow_setCell_below h5 (by simp) _, ⟨h6.1, h6.2.1, Or.inl rfl⟩, h7⟩
/-- the fields are stored -/
theorem ReqA.put {w0 w w' : World} {p g : Nat} {l : List Int} {K K' : List Fld → Prop} {r2 : Option Nat} {v : Value} {x : List Fld} (h : ReqA w0 p g l K w) (hp : p < w0.heap.size) (hg : w0.heap.size < g) (hgr : w.grownBy w' r2) (hr : ∀ k, r2 = some k → g < k) (hown : OwnF (g + 1) w' v x) (hk : K' x) : ReqA w0 p g l K' (w'.setCell ⟨g, 3, none⟩ v) := by
  obtain ⟨m, t, n, vf, x0, h1, h2, h3, h4, h5, h6, h7⟩ := h
  have hgr2 := grown_set w' g 3 v
  have k1 : w'.heap[g]? = some (.cells #[.string m, .string t, .int .i64 n, vf, .bool false, .slice none 0 0] 35) := (hgr.block g (Array.getElem?_eq_some_iff.1 h1).1 (by intro e; have := hr g e.symm; omega)).trans h1
  have k2 := (hgr.block _ (Array.getElem?_eq_some_iff.1 h2).1 (by intro e; have := hr _ e.symm; omega)).trans h2
  have k3 : w0.grownBy w' (some p) := grownBy_own h3 hgr (by intro k hk; have := hr k hk; omega)
  have k4 : Src w' p l := src_own h4 hgr (by intro k hk; have := hr k hk; omega)
  exact ⟨m, t, n, v, x, (heap_setCell_same w' g 3 _ _ _ k1).trans (by simp), (hgr2.block _ (Array.getElem?_eq_some_iff.1 k2).1 (by simp; omega)).trans k2, grownBy_own k3 hgr2 (by intro k hk; have := Option.some.inj hk; omega), src_own k4 hgr2 (by intro k hk; have := Option.some.inj hk; omega), ownsRow_setCell_below hown (by simp) _, h6, hk⟩
/-- a made request -/
def MadeR (m t : ByteArray) (n : Int) (x : List Fld) (fr : Bool) (b : List UInt8) : Prop := (m ∈ reqMs ∧ t ∈ reqTs ∧ (n = 0 ∨ n = 1)) ∧ MadeX x 6 ∧ b.length ≤ 30

/-- where the call of Request stands once the fields are made -/
def ReqE (w0 : World) (p g : Nat) (l : List Int) (w : World) : Prop :=
  ∃ m t n vf x fr vb b, w.heap[g]? = some (.cells #[.string m, .string t, .int .i64 n, vf, .bool fr, vb] 35) ∧
    w.heap[w0.heap.size]? = some (.cells #[.string .empty, .string .empty, .int .i64 0, .slice none 0 0, .bool false, .slice none 0 0] 35) ∧
    w0.grownBy w (some p) ∧ Src w p l ∧ OwnF (g + 1) w vf x ∧ OwnY (g + 1) w vb b ∧ MadeR m t n x fr b
theorem ReqA.e0 {w0 w : World} {p g : Nat} {l : List Int} (h : ReqA w0 p g l (fun x => MadeX x 6) w) : ReqE w0 p g l w := by
  obtain ⟨m, t, n, vf, x, h1, h2, h3, h4, h5, h6, h7⟩ := h
  exact ⟨m, t, n, vf, x, false, .slice none 0 0, [], h1, h2, h3, h4, h5, World.ownsRow_nil _ _ _ _, h6, h7, Nat.zero_le _⟩
theorem ReqE.src {w0 w w' : World} {p g : Nat} {l : List Int} (h : ReqE w0 p g l w) (hp : p < w0.heap.size) (hg : w0.heap.size < g) (hgr : w.grownBy w' (some p)) (hs : Src w' p l) : ReqE w0 p g l w' := by
  obtain ⟨m, t, n, vf, x, fr, vb, b, h1, h2, h3, h4, h5, h6, h7⟩ := h
  exact ⟨m, t, n, vf, x, fr, vb, b, grown_at hgr h1 (by omega), grown_at hgr h2 (by omega), grownBy_trans h3 hgr, hs, own_src h5 hgr (by omega), own_src h6 hgr (by omega), h7⟩
theorem ReqE.s {w0 w : World} {p g : Nat} {l : List Int} (h : ReqE w0 p g l w) : Src w p l := by
  obtain ⟨m, t, n, vf, x, fr, vb, b, h1, h2, h3, h4, h5, h6, h7⟩ := h; exact h4
theorem ReqE.lt {w0 w : World} {p g : Nat} {l : List Int} (h : ReqE w0 p g l w) : g + 1 ≤ w.heap.size := by
  obtain ⟨m, t, n, vf, x, fr, vb, b, h1, h2, h3, h4, h5, h6, h7⟩ := h; exact (Array.getElem?_eq_some_iff.1 h1).1
theorem ReqE.minor {w0 w : World} {p g : Nat} {l : List Int} (h : ReqE w0 p g l w) : ∃ n, (n = 0 ∨ n = 1) ∧ w.cell? ⟨g, 2, none⟩ = some (.int .i64 n) := by
  obtain ⟨m, t, n, vf, x, fr, vb, b, h1, h2, h3, h4, h5, h6, h7⟩ := h
  exact ⟨n, h7.1.2.2, cell_of_row w g 2 _ _ _ h1⟩
theorem ReqE.cells {w0 w : World} {p g : Nat} {l : List Int} (h : ReqE w0 p g l w) : (∃ u, w.cell? ⟨g, 4, none⟩ = some u) ∧ (∃ u, w.cell? ⟨g, 5, none⟩ = some u) ∧ w.frozen? ⟨g, 4, none⟩ = false ∧ w.frozen? ⟨g, 5, none⟩ = false := by
  obtain ⟨m, t, n, vf, x, fr, vb, b, h1, h2, h3, h4, h5, h6, h7⟩ := h
  exact ⟨⟨_, cell_of_row w g 4 _ _ _ h1⟩, ⟨_, cell_of_row w g 5 _ _ _ h1⟩, frozen_of_row w g 4 _ _ h1, frozen_of_row w g 5 _ _ h1⟩
theorem ReqE.setFr {w0 w : World} {p g : Nat} {l : List Int} (h : ReqE w0 p g l w) (hp : p < w0.heap.size) (hg : w0.heap.size < g) (f : Bool) : ReqE w0 p g l (w.setCell ⟨g, 4, none⟩ (.bool f)) := by
  obtain ⟨m, t, n, vf, x, fr, vb, b, h1, h2, h3, h4, h5, h6, h7⟩ := h
  have hgr := grown_set w g 4 (.bool f)
  exact ⟨m, t, n, vf, x, f, vb, b, (heap_setCell_same w g 4 _ _ _ h1).trans (by simp), (hgr.block _ (Array.getElem?_eq_some_iff.1 h2).1 (by simp; omega)).trans h2, grownBy_own h3 hgr (by intro k hk; have := Option.some.inj hk; omega), src_own h4 hgr (by intro k hk; have := Option.some.inj hk; omega), ownsRow_setCell_below h5 (by simp) _, ownsRow_setCell_below h6 (by simp) _, h7⟩
theorem ReqE.setBody {w0 w : World} {p g : Nat} {l : List Int} (h : ReqE w0 p g l w) (hp : p < w0.heap.size) (hg : w0.heap.size < g) {v : Value} {y : List UInt8} (hy : OwnY (g + 1) w v y) (hl : y.length ≤ 30) : ReqE w0 p g l (w.setCell ⟨g, 5, none⟩ v) := by
  obtain ⟨m, t, n, vf, x, fr, vb, b, h1, h2, h3, h4, h5, h6, h7⟩ := h
  have hgr := grown_set w g 5 v
  exact ⟨m, t, n, vf, x, fr, v, y, (heap_setCell_same w g 5 _ _ _ h1).trans (by simp), (hgr.block _ (Array.getElem?_eq_some_iff.1 h2).1 (by simp; omega)).trans h2, grownBy_own h3 hgr (by intro k hk; have := Option.some.inj hk; omega), src_own h4 hgr (by intro k hk; have := Option.some.inj hk; omega), ownsRow_setCell_below h5 (by simp) _, ownsRow_setCell_below hy (by simp) _, h7.1, h7.2.1, hl⟩

set_option maxRecDepth 100000 in
theorem request_calls (p : Nat) (l : List Int) (w : World) (h : Src w p l) :
    Calls Tryz.prog 23 #[.pointer (some ⟨p, 0, none⟩)] w fun e w' => (∃ m t n vf x fr vb b, e = .returned (.agg #[.string m, .string t, .int .i64 n, vf, .bool fr, vb]) ∧ MadeR m t n x fr b ∧ OwnF w.heap.size w' vf x ∧ OwnY w.heap.size w' vb b) ∧ w.grownBy w' (some p) ∧ Src w' p l := by
  have hlt := h.lt
  go_enter Tryz.func23, Tryz.ntmps23
  go_wp2_with fail
  refine (oflit_calls reqMs p l _ _ 5 5 _ (h.grown ((Below.refl _ _).alloc (Nat.le_refl _) _)) rfl (by simp) rfl (by decide) (by decide)).mono ?_
  rintro e w1 ⟨⟨m, hm, rfl⟩, hg1, hs1⟩
  have HA1 := Lib.hid (grown_at hg1 (heap_alloc_new w _) (by omega))
  have HG1 := grownBy_trans (World.grownBy_alloc w _ _) hg1
  clear hg1
  go_wp2_with fail
  refine (oflit_calls reqTs p l _ _ 4 4 _ hs1 rfl (by simp) rfl (by decide) (by decide)).mono ?_
  rintro e w2 ⟨⟨t, ht, rfl⟩, hg2, hs2⟩
  have HA2 := Lib.hid (grown_at hg2 HA1.out (by omega))
  have HG2 := grownBy_trans HG1 hg2
  clear hg2 HA1 HG1
  have hz2 := (Array.getElem?_eq_some_iff.1 HA2.out).1
  have HA3 : ReqA w p w2.heap.size l (fun x => x = []) (w2.alloc (.cells #[.string m, .string t, .int .i64 1, .slice none 0 0, .bool false, .slice none 0 0] 35)) := by
    have hgr := World.grownBy_alloc w2 (.cells #[.string m, .string t, .int .i64 1, .slice none 0 0, .bool false, .slice none 0 0] 35) (some p)
    exact ⟨m, t, 1, .slice none 0 0, [], heap_alloc_new w2 _, grown_at hgr HA2.out (by omega), grownBy_trans HG2 hgr, hs2.grown ((Below.refl _ _).alloc (Nat.le_refl _) _), World.ownsRow_nil _ _ _ _, ⟨hm, ht, Or.inr rfl⟩, rfl⟩
  clear HA2 HG2 hs2 hs1 hm ht h
  go_wp2_with fail
  refine (next_calls p l 6 _ HA3.s (by omega) (by omega)).mono ?_
  rintro e w3 ⟨⟨r, rfl, hr1, hr2⟩, hg3, hs4⟩
  have HI := Lib.hid (HA3.src hlt hz2 hg3 hs4)
  clear HA3 hg3 hs4
  generalize w2.heap.size = g at *
  go_upto_if 13 with fail
  go_cut [2, 3] (fun s2 s3 wx => s2 = .pointer (some ⟨w.heap.size, 0, none⟩) ∧ s3 = .pointer (some ⟨g, 0, none⟩) ∧ ReqA w p g l (fun x => x = []) wx)
  case first =>
    cases hr : (r == 0) with
    | true =>
      obtain ⟨⟨n, -, c2⟩, f2⟩ := HI.out.cell2
      have HM := Lib.hid (HI.out.minor hlt hz2)
      go_wp2_with fail
      go_meet
      case rel => exact ⟨rfl, rfl, HM.out⟩
    | false =>
      go_wp2_with fail
      go_meet
      case rel => exact ⟨rfl, rfl, HI.out⟩
  case rest =>
  clear HI hr1 hr2
  obtain ⟨rfl, rfl, HI⟩ := hcut
  have hz := HI.lt
  go_wp2_with fail
  refine (sfields_calls p l 3 _ HI.s (by omega) (by omega)).mono ?_
  rintro e w4 ⟨⟨v, x, rfl, hx3, hx, hown⟩, hg4, hs5⟩
  have HI4 := HI.src hlt hz2 hg4 hs5
  have hown4 : OwnF (g + 1) w4 v x := World.ownsRow.mono hown hz
  have hsz4 : g + 1 ≤ w4.heap.size := Nat.le_trans hz hg4.size
  obtain ⟨a0, c0, rfl, -, -, -⟩ := owned_slice hown4
  have hx4 : MadeX (x ++ [hostF]) 4 := MadeX.host hx (by omega)
  have hroom : (x.length + 1) * 32 ≤ 140737488355328 := by omega
  have hroom2 : x.length + 1 ≤ maxLen := by simp [maxLen]; omega
  have hlow : ∀ k, blk a0 = some k → g < k := fun k hk => (hown4.lt k (by rw [ownBlock_slice]; exact hk)).1
  have HH := Lib.hid HI4
  clear HI hown hg4 hs5 hx hx3
  go_wp2_with (at_builtin; refine wpList_append_oneb rfl (.tmp 16) (.tmp 18) 23 rfl (g + 1) hsz4 45 (.agg #[.string .empty, .string .empty]) 2 32 Tryz.underlying23 info_fld rfl (by decide) a0 x.length c0 (fieldsV x) hostF.cells rfl (fld_one hostF) rfl hown4 rfl hroom hroom2 ?_; intro a1 c1 w5 hown5 hg5 hw5; obtain ⟨⟨v3, c3⟩, f3⟩ := HH.out.cell3 hg5 hlow)
  have HI5 := HI4.put (K' := fun x => MadeX x 4) hlt hz2 hg5 hlow (OwnF.snoc hown5) hx4
  refine (next_calls p l 2 _ HI5.s (by omega) (by omega)).mono ?_
  rintro e w7 ⟨⟨r2, rfl, hr1, hr2⟩, hg7, hs7⟩
  have HI := Lib.hid (HI5.src hlt hz2 hg7 hs7)
  clear HI5 HI4 HH hown4 hown5 hg5 hg7 hs7 hw5 hlow hroom hroom2 c3 f3 hx4 hsz4 hr1 hr2
  go_upto_if 23 with fail
  go_cut [2, 3] (fun s2 s3 wx => s2 = .pointer (some ⟨w.heap.size, 0, none⟩) ∧ s3 = .pointer (some ⟨g, 0, none⟩) ∧ ReqA w p g l (fun x => MadeX x 5) wx)
  case first =>
    cases hr : (r2 == 0) with
    | true =>
      have HD := Lib.hid (HI.out.drew)
      obtain ⟨a0, c0, x, c3, f3, hown, hx⟩ := HD.out.fields
      have hroom : (x.length + 1) * 32 ≤ 140737488355328 := by have := hx.2.1; omega
      have hroom2 : x.length + 1 ≤ maxLen := by have := hx.2.1; simp [maxLen]; omega
      have hlow : ∀ k, blk a0 = some k → g < k := fun k hk => (hown.lt k (by rw [ownBlock_slice]; exact hk)).1
      go_wp2_with fail
      go_region_law ((first
        | (refine step_append_oneb rfl (.tmp 25) (.tmp 30) 23 rfl (g + 1) hsz8 45 (.agg #[.string .empty, .string .empty]) 2 32 Tryz.underlying23 info_fld rfl (by decide) a0 x.length c0 (fieldsV x) [.string ⟨#[67, 111, 111, 107, 105, 101]⟩, .string ((⟨#[99, 111, 104, 111, 114, 116, 61]⟩ : ByteArray) ++ idOf k)] rfl (str2_one _ _) rfl hown8 rfl hroom hroom2 ?_; intro a1 c1 w9 hown9 hg9 hw9; obtain ⟨⟨v9, c9⟩, f9⟩ := H8.out.cell3 hg9 hlow)
        | (go_simp; go_at_call 53; refine (sid_calls p l _ HD.out.s).mono ?_; rintro e w8 ⟨⟨k, rfl⟩, hg8, hs8⟩; have H8 := Lib.hid (HD.out.src hlt hz2 hg8 hs8); have hown8 := own_src hown hg8 (show p < g + 1 by omega); have hsz8 := H8.out.lt; have c8 := HD.out.same3 hlt hz2 hg8 c3; have c8a : ∀ o : Obj, (w8.alloc o).cell? ⟨g, 3, none⟩ = some (.slice a0 x.length c0) := (fun o => cell_below ((Below.refl _ _).alloc (Nat.le_refl _) o) c8); have hid : ¬ 9223372036854775807 < 7 + (idOf k).size := (by rw [idOf_size]; omega))))
      all_goals
        apply_assumption
        go_meet
        case rel => exact ⟨rfl, rfl, H8.out.put hlt hz2 hg9 hlow (OwnF.snoc (f := cookF k) hown9) (MadeX.more hx (cookF_ok k).1 (cookF_ok k).2)⟩
    | false =>
      go_wp2_with fail
      go_meet
      case rel => exact ⟨rfl, rfl, HI.out.le fun x hx => hx.le (by omega)⟩
  case rest =>
  clear HI
  obtain ⟨rfl, rfl, HI⟩ := hcut
  go_wp2_with fail
  refine (next_calls p l 5 _ HI.s (by omega) (by omega)).mono ?_
  rintro e w8 ⟨⟨r3, rfl, hr1, hr2⟩, hg8, hs8⟩
  have HJ := Lib.hid (HI.src hlt hz2 hg8 hs8)
  clear HI hg8 hs8 hr1 hr2
  go_upto_if 35 with fail
  go_cut [2, 3] (fun s2 s3 wx => s2 = .pointer (some ⟨w.heap.size, 0, none⟩) ∧ s3 = .pointer (some ⟨g, 0, none⟩) ∧ ReqA w p g l (fun x => MadeX x 6) wx)
  case first =>
    cases hr : (r3 == 0) with
    | true =>
      obtain ⟨a0, c0, x, c3, f3, hown, hx⟩ := HJ.out.fields
      have hroom : (x.length + 1) * 32 ≤ 140737488355328 := by have := hx.2.1; omega
      have hroom2 : x.length + 1 ≤ maxLen := by have := hx.2.1; simp [maxLen]; omega
      have hlow : ∀ k, blk a0 = some k → g < k := fun k hk => (hown.lt k (by rw [ownBlock_slice]; exact hk)).1
      have hsz8 := HJ.out.lt
      have c3a : ∀ o : Obj, (w8.alloc o).cell? ⟨g, 3, none⟩ = some (.slice a0 x.length c0) := (fun o => cell_below ((Below.refl _ _).alloc (Nat.le_refl _) o) c3)
      go_wp2_with (at_builtin; refine wpList_append_oneb rfl (.tmp 37) (.tmp 39) 23 rfl (g + 1) hsz8 45 (.agg #[.string .empty, .string .empty]) 2 32 Tryz.underlying23 info_fld rfl (by decide) a0 x.length c0 (fieldsV x) expF.cells rfl (fld_one expF) rfl hown rfl hroom hroom2 ?_; intro a1 c1 w9 hown9 hg9 hw9; obtain ⟨⟨v9, c9⟩, f9⟩ := HJ.out.cell3 hg9 hlow)
      go_meet
      case rel => exact ⟨rfl, rfl, HJ.out.put hlt hz2 hg9 hlow (OwnF.snoc (f := expF) hown9) (MadeX.more hx expF_ok.1 expF_ok.2)⟩
    | false =>
      go_wp2_with fail
      go_meet
      case rel => exact ⟨rfl, rfl, HJ.out.le fun x hx => hx.le (by omega)⟩
  case rest =>
  clear HJ
  obtain ⟨rfl, rfl, HI⟩ := hcut
  go_wp2_with fail
  refine (next_calls p l 4 _ HI.s (by omega) (by omega)).mono ?_
  rintro e w8 ⟨⟨r4, rfl, hr1, hr2⟩, hg8, hs8⟩
  have HJ := Lib.hid (HI.e0.src hlt hz2 hg8 hs8)
  clear HI hg8 hs8 hr1 hr2
  go_upto_block 0 with fail
  go_cut [2, 3] (fun s2 s3 wx => s2 = .pointer (some ⟨w.heap.size, 0, none⟩) ∧ s3 = .pointer (some ⟨g, 0, none⟩) ∧ ReqE w p g l wx)
  case first =>
    cases hr : (r4 == 0) with
    | true =>
      go_wp2_with fail
      refine (bytes_calls p l 30 _ HJ.out.s (by omega) (by omega)).mono ?_
      rintro e w9 ⟨⟨v, y, rfl, hy, hown⟩, hg9, hs9⟩
      obtain ⟨ay, cy, rfl, -, -, -⟩ := owned_slice hown
      have HK := Lib.hid (HJ.out.src hlt hz2 hg9 hs9)
      have hown2 : OwnY (g + 1) w9 _ y := World.ownsRow.mono hown HJ.out.lt
      obtain ⟨⟨u4, c4⟩, ⟨u5, c5⟩, f4, f5⟩ := HK.out.cells
      have HL := Lib.hid (((HK.out.setFr hlt hz2 true).setBody hlt hz2 (ownsRow_setCell_below hown2 (by simp) _) (by omega)))
      clear hown hg9 hs9 hown2 HJ
      go_wp2_with fail
      go_meet
      case rel => exact ⟨rfl, rfl, HL.out⟩
    | false =>
      cases hr1 : (r4 == 1) with
      | false =>
        go_wp2_with fail
        go_meet
        case rel => exact ⟨rfl, rfl, HJ.out⟩
      | true =>
        obtain ⟨n, hn, c2⟩ := HJ.out.minor
        obtain ⟨⟨u4, c4⟩, ⟨u5, c5⟩, f4, f5⟩ := HJ.out.cells
        rcases hn with rfl | rfl
        · have HL := Lib.hid (((HJ.out.setFr hlt hz2 false).setBody hlt hz2 (v := .slice none 0 0) (y := []) (World.ownsRow_nil _ _ _ _) (by simp)))
          go_wp2_with fail
          go_meet
          case rel => exact ⟨rfl, rfl, HL.out⟩
        · have HL := Lib.hid (((HJ.out.setFr hlt hz2 true).setBody hlt hz2 (v := .slice none 0 0) (y := []) (World.ownsRow_nil _ _ _ _) (by simp)))
          have L5 : ∃ u, ((w8.setCell ⟨g, 4, none⟩ (.bool true)).setCell ⟨g, 5, none⟩ (.slice none 0 0)).cell? ⟨g, 5, none⟩ = some u := HL.out.cells.2.1
          go_wp2_with fail
          refine (bytes_calls p l 30 _ HL.out.s (by omega) (by omega)).mono ?_
          rintro e w9 ⟨⟨v, y, rfl, hy, hown⟩, hg9, hs9⟩
          obtain ⟨ay, cy, rfl, -, -, -⟩ := owned_slice hown
          have HK := Lib.hid (HL.out.src hlt hz2 hg9 hs9)
          have hown2 : OwnY (g + 1) w9 _ y := World.ownsRow.mono hown HL.out.lt
          obtain ⟨⟨u4, d4⟩, ⟨u5, d5⟩, e4, e5⟩ := HK.out.cells
          have HN := Lib.hid ((HK.out.setBody hlt hz2 hown2 (by omega)))
          clear hown hg9 hs9 hown2 HJ HL L5
          go_wp2_with fail
          go_meet
          case rel => exact ⟨rfl, rfl, HN.out⟩
  case rest =>
  clear HJ
  obtain ⟨rfl, rfl, HI⟩ := hcut
  obtain ⟨m, t, n, vf, x, fr, vb, b, h1, h2, h3, h4, h5, h6, h7⟩ := HI
  obtain ⟨⟨c0, c1, c2, c3, c4, c5⟩, -, -⟩ := row6 h1
  obtain ⟨⟨d0, d1, d2, d3, d4, d5⟩, ⟨f0, f1, f2, f3, f4, f5⟩, -⟩ := row6 h2
  obtain ⟨af, cf, rfl, -, -, -⟩ := owned_slice h5
  obtain ⟨ab, cb, rfl, -, -, -⟩ := owned_slice h6
  have H2 := Lib.hid h2
  have H3 := Lib.hid h3
  have H7 := Lib.hid h7
  have hz3 : w.heap.size ≤ g + 1 := by omega
  clear h1 h2 h3 h7
  have H5 := Lib.hid h5
  have H6 := Lib.hid h6
  have H4 := Lib.hid h4
  clear h4 h5 h6
  go_wp2_with fail
  refine fin6g id H2.out (fun w2 c0 c1 c2 c3 c4 c5 => by simp [results, Tryz.results23, go_sem, c0, c1, c2, c3, c4, c5]) rfl fun w2 hg => ⟨⟨m, t, n, _, x, fr, _, b, rfl, H7.out, ?_, ?_⟩, ?_, ?_⟩
  · exact World.ownsRow.mono (own_src H5.out hg (by omega)) hz3
  · exact World.ownsRow.mono (own_src H6.out hg (by omega)) hz3
  · exact grownBy_own H3.out hg (by intro k hk; have := Option.some.inj hk; omega)
  · exact H4.out.row hg hlt
end Go.Proofs.YtfmokccoilgpmaaGreatDoor
