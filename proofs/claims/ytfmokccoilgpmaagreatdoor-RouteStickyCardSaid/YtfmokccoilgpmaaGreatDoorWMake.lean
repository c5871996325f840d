/- Make and Text of package writer and of its reference. -/
import Derived.Test.YtfmokccoilgpmaaGreatDoorReason
import Derived.Test.YtfmokccoilgpmaaGreatDoorX06
import Derived.Test.YtfmokccoilgpmaaGreatDoorSrcX
import Derived.Test.YtfmokccoilgpmaaGreatDoorLineF
import Derived.Test.YtfmokccoilgpmaaGreatDoorPB
namespace Go.Proofs.YtfmokccoilgpmaaGreatDoor
open Go.RowKit Go.Own
set_option linter.unusedVariables false
set_option maxHeartbeats 2000000

def sCT : ByteArray := ⟨#[67, 111, 110, 116, 101, 110, 116, 45, 84, 121, 112, 101]⟩
def sCL : ByteArray := ⟨#[67, 111, 110, 116, 101, 110, 116, 45, 76, 101, 110, 103, 116, 104]⟩
def sTP : ByteArray := ⟨#[116, 101, 120, 116, 47, 112, 108, 97, 105, 110]⟩
/-- the fields of a made reply -/
def makeF (kind : ByteArray) (n : Nat) (more : List Fld) : List Fld := [⟨sCT, kind⟩, ⟨sCL, bs (digs 10 n)⟩] ++ more
theorem rdf_two (w : World) (a b c d : ByteArray) (fz : Nat × Nat) : RdF (w.alloc (.cells #[.string a, .string b, .string c, .string d] 45 fz)) (.slice (some ⟨w.heap.size, 0, none⟩) 2 2) [⟨a, b⟩, ⟨c, d⟩] :=
  ⟨_, 2, rfl, Nat.le_refl _, by simp [maxLen], by simp, RdC_new w (fieldsV [⟨a, b⟩, ⟨c, d⟩]) _ fz⟩

/-- a struct of 5 cells is stored into the result's block, and the call returns -/
theorem fin5g {P : Program} {fn : Func} {R : Ending → World → Prop} {a : Act} {w1 : World} {g : Nat} {x0 x1 x2 x3 x4 y0 y1 y2 y3 y4 : Value} {T : TypeId} (mk : Value → Value) (h : w1.heap[g]? = some (.cells #[x0, x1, x2, x3, x4] T))
    (hres : ∀ w2 : World, w2.cell? ⟨g, 0, none⟩ = some y0 → w2.cell? ⟨g, 1, none⟩ = some y1 → w2.cell? ⟨g, 2, none⟩ = some y2 → w2.cell? ⟨g, 3, none⟩ = some y3 → w2.cell? ⟨g, 4, none⟩ = some y4 → (results fn a.tmps).run P w2 = .ok (mk (.agg #[y0, y1, y2, y3, y4])) w2) (hd : a.defers = []) (hR : ∀ w2 : World, w1.grownBy w2 (some g) → R (.returned (mk (.agg #[y0, y1, y2, y3, y4]))) w2) :
    bodyPost P fn R .ret a (((((w1.setCell ⟨g, 0, none⟩ y0).setCell ⟨g, 1, none⟩ y1).setCell ⟨g, 2, none⟩ y2).setCell ⟨g, 3, none⟩ y3).setCell ⟨g, 4, none⟩ y4) := by
  have h0 := h
  have h1 : (w1.setCell ⟨g, 0, none⟩ y0).heap[g]? = some (.cells #[y0, x1, x2, x3, x4] T) := (heap_setCell_same w1 g 0 _ _ _ h0).trans (by simp)
  have h2 : ((w1.setCell ⟨g, 0, none⟩ y0).setCell ⟨g, 1, none⟩ y1).heap[g]? = some (.cells #[y0, y1, x2, x3, x4] T) := (heap_setCell_same (w1.setCell ⟨g, 0, none⟩ y0) g 1 _ _ _ h1).trans (by simp)
  have h3 : (((w1.setCell ⟨g, 0, none⟩ y0).setCell ⟨g, 1, none⟩ y1).setCell ⟨g, 2, none⟩ y2).heap[g]? = some (.cells #[y0, y1, y2, x3, x4] T) := (heap_setCell_same ((w1.setCell ⟨g, 0, none⟩ y0).setCell ⟨g, 1, none⟩ y1) g 2 _ _ _ h2).trans (by simp)
  have h4 : ((((w1.setCell ⟨g, 0, none⟩ y0).setCell ⟨g, 1, none⟩ y1).setCell ⟨g, 2, none⟩ y2).setCell ⟨g, 3, none⟩ y3).heap[g]? = some (.cells #[y0, y1, y2, y3, x4] T) := (heap_setCell_same (((w1.setCell ⟨g, 0, none⟩ y0).setCell ⟨g, 1, none⟩ y1).setCell ⟨g, 2, none⟩ y2) g 3 _ _ _ h3).trans (by simp)
  have h5 : (((((w1.setCell ⟨g, 0, none⟩ y0).setCell ⟨g, 1, none⟩ y1).setCell ⟨g, 2, none⟩ y2).setCell ⟨g, 3, none⟩ y3).setCell ⟨g, 4, none⟩ y4).heap[g]? = some (.cells #[y0, y1, y2, y3, y4] T) := (heap_setCell_same ((((w1.setCell ⟨g, 0, none⟩ y0).setCell ⟨g, 1, none⟩ y1).setCell ⟨g, 2, none⟩ y2).setCell ⟨g, 3, none⟩ y3) g 4 _ _ _ h4).trans (by simp)
  have hb : w1.grownBy (((((w1.setCell ⟨g, 0, none⟩ y0).setCell ⟨g, 1, none⟩ y1).setCell ⟨g, 2, none⟩ y2).setCell ⟨g, 3, none⟩ y3).setCell ⟨g, 4, none⟩ y4) (some g) :=
    grownBy_trans (grownBy_trans (grownBy_trans (grownBy_trans (grown_set _ g 0 _) (grown_set _ g 1 _)) (grown_set _ g 2 _)) (grown_set _ g 3 _)) (grown_set _ g 4 _)
  have hh : (((((w1.setCell ⟨g, 0, none⟩ y0).setCell ⟨g, 1, none⟩ y1).setCell ⟨g, 2, none⟩ y2).setCell ⟨g, 3, none⟩ y3).setCell ⟨g, 4, none⟩ y4).heap[g]? = some (.cells #[y0, y1, y2, y3, y4] T) := h5
  generalize (((((w1.setCell ⟨g, 0, none⟩ y0).setCell ⟨g, 1, none⟩ y1).setCell ⟨g, 2, none⟩ y2).setCell ⟨g, 3, none⟩ y3).setCell ⟨g, 4, none⟩ y4) = w2 at hh hb ⊢
  obtain ⟨⟨c0, c1, c2, c3, c4⟩, -, -⟩ := row5 hh
  exact bodyPost_ret (hres w2 c0 c1 c2 c3 c4) hd (hR w2 hb)

theorem MutY.src {B p : Nat} {w w' : World} {v : Value} {l : List UInt8} (h : MutY B w v l) (hg : w.grownBy w' (some p)) (hp : p < B) : MutY B w' v l := by
  obtain ⟨g, cap, rfl, h1, h2, h3, h4, h5, h6⟩ := h
  have hk : w'.heap[g]? = w.heap[g]? := hg.block g h2 (by intro e; have := Option.some.inj e; omega)
  have hc : ∀ j, w'.cell? ⟨g, j, none⟩ = w.cell? ⟨g, j, none⟩ := fun j => by unfold World.cell?; rw [hk]
  have hf : ∀ j, w'.frozen? ⟨g, j, none⟩ = w.frozen? ⟨g, j, none⟩ := fun j => by unfold World.frozen?; rw [hk]
  refine ⟨g, cap, rfl, h1, Nat.lt_of_lt_of_le h2 hg.size, h3, h4, h5.grown hg (Or.inr (by simp [blk]; omega)), fun j hj => ?_⟩
  rw [hc, hf]; exact h6 j hj

set_option maxRecDepth 100000 in
theorem make_calls (st : Int) (kind body : ByteArray) (vm : Value) (more : List Fld) (w : World) (hE : EnvW w) (Hm : RdF w vm more) (h1 : kind.size ≤ 10000000) (h2 : body.size ≤ 10000000) (h3 : more.length ≤ 1000000) :
    Calls Tryz.prog 71 #[.int .i64 st, .string kind, .string body, vm] w fun e w' => (∃ vf vb, e = .returned (.agg #[.int .i64 st, .string (reasonOf st), .int .i64 1, vf, vb]) ∧ OwnF w.heap.size w' vf (makeF kind body.size more) ∧ MutY w.heap.size w' vb (bl body)) ∧ Below w.heap.size w w' := by
  have HB0 := (Below.refl w.heap.size w).alloc (Nat.le_refl _) (.cells #[.int .i64 0, .string .empty, .int .i64 0, .slice none 0 0, .slice none 0 0] 55)
  have H0 := Lib.hid (heap_alloc_new w (.cells #[.int .i64 0, .string .empty, .int .i64 0, .slice none 0 0, .slice none 0 0] 55))
  have CR := Lib.hid (fun w hE => reason_calls st w hE)
  have hbz : body.size ≤ maxLen := by simp [maxLen]; omega
  have CD := Lib.hid (fun w hE => decimal_calls body.size (body.size : Int) w hE rfl (by omega))
  have HMF := Lib.hid (show makeF kind body.size more = [⟨sCT, kind⟩, ⟨sCL, bs (digs 10 body.size)⟩] ++ more from rfl)
  generalize reasonOf st = R at CR ⊢
  generalize bs (digs 10 body.size) = D at CD HMF
  go_enter Tryz.func71, Tryz.ntmps71
  go_wp2_with fail
  refine (CD.out _ (hE.p.below HB0)).mono ?_
  rintro e w1 ⟨rfl, hb1⟩
  have HB1 := Below.self_trans HB0 hb1
  have H1 := Lib.hid (row_below H0.out hb1)
  clear hb1
  go_wp2_with fail
  have HA := (Below.refl w1.heap.size w1).alloc (Nat.le_refl _) (.cells #[.string sCT, .string kind, .string sCL, .string D] 45)
  have HR2 := Lib.hid (rdf_two w1 sCT kind sCL D (0, 0))
  have H2 := Lib.hid (row_below H1.out HA)
  have HB2 := Below.self_trans HB1 HA
  refine (CR.out _ (hE.below HB2)).mono ?_
  rintro e w2 ⟨rfl, hb2⟩
  have H3 := Lib.hid (row_below H2.out hb2)
  have HR3 := Lib.hid (HR2.out.below hb2)
  have HZ := Lib.hid (Array.getElem?_eq_some_iff.1 H3.out).1
  have HB3 := Below.self_trans HB2 hb2
  clear hb2 H0 H1 H2 HR2 HA HB0 HB1 HB2
  go_wp2_with fail
  refine (with_calls _ vm _ more _ HR3.out (Hm.below HB3) (by simp) (by omega)).mono ?_
  rintro e w3 ⟨⟨v, rfl, hown⟩, hb3⟩
  have HV := Lib.hid hown
  obtain ⟨av, cv, rfl, -, -, -⟩ := owned_slice hown
  have H4 := Lib.hid (row_below H3.out hb3)
  have HB4 := Below.self_trans HB3 hb3
  have HZ3 := Lib.hid hb3.size
  clear hb3 H3 HR3 HB3 hown
  go_wp2_with (refine wpList_strbytes_own rfl 9 33 _ rfl body rfl 5 Tryz.underlying9 Tryz.underlying33 Tryz.underlying5 ?_ hbz; intro g capb w4 hb4 hm; obtain ⟨⟨c0, c1, c2, c3, c4⟩, ⟨f0, f1, f2, f3, f4⟩, -⟩ := row5 (row_below H4.out hb4))
  have H5 := Lib.hid (row_below H4.out hb4)
  have HB5 := Below.self_trans HB4 hb4
  have HV5 := Lib.hid (OwnF.below HV.out hb4)
  have HM := Lib.hid hm
  clear hb4 hm
  have hz2 : w.heap.size < w2.heap.size := HZ.out
  have hz3 : w.heap.size < w3.heap.size := Nat.lt_of_lt_of_le hz2 HZ3.out
  go_wp2
  exact fin5g id H5.out (fun w2 c0 c1 c2 c3 c4 => by simp [results, Tryz.results71, go_sem, c0, c1, c2, c3, c4]) rfl (fun w5 hg => ⟨⟨_, _, rfl, by rw [HMF.out]; exact OwnF.base (own_src HV5.out hg hz2) (Nat.le_of_lt hz2), (MutY.src HM.out hg hz3).mono (Nat.le_of_lt hz3)⟩, below_src HB5 hg (Nat.le_refl _)⟩)

set_option maxRecDepth 100000 in
theorem refMake_calls (st : Int) (kind body : ByteArray) (vm : Value) (more : List Fld) (w : World) (Hm : RdF w vm more) (h1 : kind.size ≤ 10000000) (h2 : body.size ≤ 10000000) (h3 : more.length ≤ 1000000) :
    Calls Tryz.prog 72 #[.int .i64 st, .string kind, .string body, vm] w fun e w' => (∃ vf vb, e = .returned (.agg #[.int .i64 st, .string (reasonOf st), .int .i64 1, vf, vb]) ∧ OwnF w.heap.size w' vf (makeF kind body.size more) ∧ MutY w.heap.size w' vb (bl body)) ∧ Below w.heap.size w w' := by
  have HB0 := (Below.refl w.heap.size w).alloc (Nat.le_refl _) (.cells #[.int .i64 0, .string .empty, .int .i64 0, .slice none 0 0, .slice none 0 0] 55)
  have H0 := Lib.hid (heap_alloc_new w (.cells #[.int .i64 0, .string .empty, .int .i64 0, .slice none 0 0, .slice none 0 0] 55))
  have CR := Lib.hid (fun w => refReason_calls st w)
  have hbz : body.size ≤ maxLen := by simp [maxLen]; omega
  have CD := Lib.hid (fun w => refDecimal_calls body.size (body.size : Int) w rfl (by omega))
  have HMF := Lib.hid (show makeF kind body.size more = [⟨sCT, kind⟩, ⟨sCL, bs (digs 10 body.size)⟩] ++ more from rfl)
  generalize reasonOf st = R at CR ⊢
  generalize bs (digs 10 body.size) = D at CD HMF
  obtain ⟨am, cm, rfl, m1, m2, m3, hcm⟩ := id Hm
  go_enter Tryz.func72, Tryz.ntmps72
  go_wp2_with fail
  refine (CD.out _).mono ?_
  rintro e w1 ⟨rfl, hb1⟩
  have HB1 := Below.self_trans HB0 hb1
  have H1 := Lib.hid (row_below H0.out hb1)
  clear hb1
  go_wp2_with fail
  refine (CR.out _).mono ?_
  rintro e w2 ⟨rfl, rfl⟩
  have HA := (Below.refl w1.heap.size w1).alloc (Nat.le_refl _) (.cells #[.string sCT, .string kind, .string sCL, .string D] 45)
  have hz2 : w.heap.size < w1.heap.size := (Array.getElem?_eq_some_iff.1 H1.out).1
  have HO := World.ownsRow_lit (base := w1.heap.size) (e := 45) (size := 2) w1 #[.string sCT, .string kind, .string sCL, .string D] 2 (Nat.le_refl _) (by simp [maxLen]) rfl
  have H2 := Lib.hid (row_below H1.out HA)
  have HB2 := Below.self_trans HB1 HA
  have hcm2 := hcm.below HB2
  have HZ2 := Lib.hid hz2
  clear H0 H1 HB0 HB1 HA hcm hz2
  go_wp2_with (first
    | (at_builtin; refine wpList_append_rdb rfl (.tmp 20) (.tmp 21) 23 rfl w1.heap.size (by simp) 45 (.agg #[.string .empty, .string .empty]) 2 32 Tryz.underlying23 info_fld rfl (by decide) (some ⟨w1.heap.size, 0, none⟩) 2 2 _ rfl HO am more.length cm (fieldsV more) rfl (fieldsV_length more) m3 m1 hcm2 (fieldsV_one more) (by omega) (by simp [maxLen]; omega) ?_; intro a3 c3 w3 hown3 hg3 hw3; have hz2 := HZ2.out; have H3 := Lib.hid ((hg3.block w.heap.size (by simp; omega) (by simp [blk]; omega)).trans H2.out); have HB3 := HB2.grown hg3 HB2.size (fun k hk => by simp [blk] at hk; omega); have HV := Lib.hid hown3; have HZ3 := Lib.hid hg3.size; clear HO hcm2 hg3 hw3 hz2 hown3)
    | (refine wpList_strbytes_own rfl 9 33 _ rfl body rfl 5 Tryz.underlying9 Tryz.underlying33 Tryz.underlying5 ?_ hbz; intro g capb w4 hb4 hm; obtain ⟨⟨c0, c1, c2, c3', c4⟩, ⟨f0, f1, f2, f3, f4⟩, -⟩ := row5 (row_below H3.out hb4)))
  have H5 := Lib.hid (row_below H3.out hb4)
  have HB5 := Below.self_trans HB3 hb4
  have HV5 := Lib.hid (own_below HV.out hb4)
  have hz2 := HZ2.out
  have hz3 : w.heap.size < w3.heap.size := by have := HZ3.out; simp at this; omega
  refine fin5g id H5.out (fun w2 c0 c1 c2 c3 c4 => by simp [results, Tryz.results72, go_sem, c0, c1, c2, c3, c4]) rfl (fun w5 hg => ⟨⟨_, _, rfl, ?_, (MutY.src hm hg hz3).mono (Nat.le_of_lt hz3)⟩, below_src HB5 hg (Nat.le_refl _)⟩)
  rw [HMF.out]
  refine OwnF.base (B := w1.heap.size) ?_ (Nat.le_of_lt hz2)
  have h := own_src HV5.out hg hz2
  have e1 : ([⟨sCT, kind⟩, ⟨sCL, D⟩] ++ more : List Fld).length = 2 + more.length := by simp; omega
  rw [OwnF, e1]
  exact h

theorem text_calls12 (st : Int) (body : ByteArray) (vm : Value) (more : List Fld) (w : World) (hE : EnvW w) (Hm : RdF w vm more) (h2 : body.size ≤ 10000000) (h3 : more.length ≤ 1000000) :
    Calls Tryz.prog 39 #[.int .i64 st, .string body, vm] w fun e w' => (∃ vf vb, e = .returned (.agg #[.int .i64 st, .string (reasonOf st), .int .i64 1, vf, vb]) ∧ OwnF w.heap.size w' vf (makeF sTP body.size more) ∧ MutY w.heap.size w' vb (bl body)) ∧ Below w.heap.size w w' := by
  have HB0 := (Below.refl w.heap.size w).alloc (Nat.le_refl _) (.cells #[.int .i64 0, .string .empty, .int .i64 0, .slice none 0 0, .slice none 0 0] 55)
  have H0 := Lib.hid (heap_alloc_new w (.cells #[.int .i64 0, .string .empty, .int .i64 0, .slice none 0 0, .slice none 0 0] 55))
  have CM := Lib.hid (make_calls st sTP body vm more _ (hE.below HB0) (Hm.below HB0) (by decide) h2 h3)
  go_enter Tryz.func39, Tryz.ntmps39
  go_wp2_with fail
  refine CM.out.mono ?_
  rintro e w1 ⟨⟨vf, vb, rfl, hf, hm⟩, hb⟩
  have H1 := Lib.hid (row_below H0.out hb)
  have HB1 := Below.self_trans HB0 hb
  obtain ⟨af, cf, rfl, -, -, -⟩ := owned_slice hf
  obtain ⟨g, cb, rfl, m1, m2⟩ := id hm
  obtain ⟨⟨c0, c1, c2, c3, c4⟩, ⟨f0, f1, f2, f3, f4⟩, -⟩ := row5 H1.out
  have HF := Lib.hid hf
  have HM := Lib.hid hm
  clear hf hm hb m1 m2 H0
  go_wp2
  exact fin5g id H1.out (fun w2 c0 c1 c2 c3 c4 => by simp [results, Tryz.results39, go_sem, c0, c1, c2, c3, c4]) rfl (fun w5 hg => ⟨⟨_, _, rfl, OwnF.base (own_src HF.out hg (by simp)) (by simp), (MutY.src HM.out hg (by simp)).mono (by simp)⟩, below_src HB1 hg (Nat.le_refl _)⟩)

theorem refText_calls (st : Int) (body : ByteArray) (vm : Value) (more : List Fld) (w : World) (Hm : RdF w vm more) (h2 : body.size ≤ 10000000) (h3 : more.length ≤ 1000000) :
    Calls Tryz.prog 42 #[.int .i64 st, .string body, vm] w fun e w' => (∃ vf vb, e = .returned (.agg #[.int .i64 st, .string (reasonOf st), .int .i64 1, vf, vb]) ∧ OwnF w.heap.size w' vf (makeF sTP body.size more) ∧ MutY w.heap.size w' vb (bl body)) ∧ Below w.heap.size w w' := by
  have HB0 := (Below.refl w.heap.size w).alloc (Nat.le_refl _) (.cells #[.int .i64 0, .string .empty, .int .i64 0, .slice none 0 0, .slice none 0 0] 55)
  have H0 := Lib.hid (heap_alloc_new w (.cells #[.int .i64 0, .string .empty, .int .i64 0, .slice none 0 0, .slice none 0 0] 55))
  have CM := Lib.hid (refMake_calls st sTP body vm more _ (Hm.below HB0) (by decide) h2 h3)
  go_enter Tryz.func42, Tryz.ntmps42
  go_wp2_with fail
  refine CM.out.mono ?_
  rintro e w1 ⟨⟨vf, vb, rfl, hf, hm⟩, hb⟩
  have H1 := Lib.hid (row_below H0.out hb)
  have HB1 := Below.self_trans HB0 hb
  obtain ⟨af, cf, rfl, -, -, -⟩ := owned_slice hf
  obtain ⟨g, cb, rfl, m1, m2⟩ := id hm
  obtain ⟨⟨c0, c1, c2, c3, c4⟩, ⟨f0, f1, f2, f3, f4⟩, -⟩ := row5 H1.out
  have HF := Lib.hid hf
  have HM := Lib.hid hm
  clear hf hm hb m1 m2 H0
  go_wp2
  exact fin5g id H1.out (fun w2 c0 c1 c2 c3 c4 => by simp [results, Tryz.results42, go_sem, c0, c1, c2, c3, c4]) rfl (fun w5 hg => ⟨⟨_, _, rfl, OwnF.base (own_src HF.out hg (by simp)) (by simp), (MutY.src HM.out hg (by simp)).mono (by simp)⟩, below_src HB1 hg (Nat.le_refl _)⟩)
end Go.Proofs.YtfmokccoilgpmaaGreatDoor
