/- Choose of both. -/
import Derived.Test.YtfmokccoilgpmaaGreatDoorPC
import Derived.Test.YtfmokccoilgpmaaGreatDoorPD
import Derived.Test.YtfmokccoilgpmaaGreatDoorSrcX
namespace Go.Proofs.YtfmokccoilgpmaaGreatDoor
open Go.RowKit Go.Own
set_option linter.unusedVariables false
set_option maxHeartbeats 4000000
set_option maxRecDepth 20000

def chosenI (o : Option Fld) (nid : ByteArray) : ByteArray := match o with | some f => if idB f.val then f.val else nid | none => nid
def newI (o : Option Fld) : Bool := match o with | some f => !idB f.val | none => true
def classI (salt id : ByteArray) (wt : Int) : Int := if canB (bucketI salt id) wt then 5 else 4
def nidOf (draw serial : Int) : ByteArray := idOf (hsum [bs (digs 10 draw.toNat), bs (digs 10 serial.toNat)]).toNat
def routeV (salt : ByteArray) (wt : Int) (o : Option Fld) (nid : ByteArray) : Value := .agg #[.int .i64 (classI salt (chosenI o nid) wt), .string (chosenI o nid), .bool (newI o)]
theorem row3 {w : World} {g : Nat} {x0 x1 x2 : Value} {T : TypeId} (h : w.heap[g]? = some (.cells #[x0, x1, x2] T)) :
    (w.cell? ⟨g, 0, none⟩ = some x0 ∧ w.cell? ⟨g, 1, none⟩ = some x1 ∧ w.cell? ⟨g, 2, none⟩ = some x2) ∧
    (w.frozen? ⟨g, 0, none⟩ = false ∧ w.frozen? ⟨g, 1, none⟩ = false ∧ w.frozen? ⟨g, 2, none⟩ = false) ∧ g < w.heap.size :=
  ⟨⟨cell_of_row w g 0 _ _ _ h, cell_of_row w g 1 _ _ _ h, cell_of_row w g 2 _ _ _ h⟩, ⟨frozen_of_row w g 0 _ _ h, frozen_of_row w g 1 _ _ h, frozen_of_row w g 2 _ _ h⟩, (Array.getElem?_eq_some_iff.1 h).1⟩
/-- a struct of 3 cells is stored into the result's block, and the call returns -/
theorem fin3g {P : Program} {fn : Func} {R : Ending → World → Prop} {a : Act} {w1 : World} {g : Nat} {x0 x1 x2 y0 y1 y2 : Value} {T : TypeId} (mk : Value → Value) (h : w1.heap[g]? = some (.cells #[x0, x1, x2] T))
    (hres : ∀ w2 : World, w2.cell? ⟨g, 0, none⟩ = some y0 → w2.cell? ⟨g, 1, none⟩ = some y1 → w2.cell? ⟨g, 2, none⟩ = some y2 → (results fn a.tmps).run P w2 = .ok (mk (.agg #[y0, y1, y2])) w2) (hd : a.defers = []) (hR : ∀ w2 : World, w1.grownBy w2 (some g) → R (.returned (mk (.agg #[y0, y1, y2]))) w2) :
    bodyPost P fn R .ret a (((w1.setCell ⟨g, 0, none⟩ y0).setCell ⟨g, 1, none⟩ y1).setCell ⟨g, 2, none⟩ y2) := by
  have h1 : (w1.setCell ⟨g, 0, none⟩ y0).heap[g]? = some (.cells #[y0, x1, x2] T) := (heap_setCell_same w1 g 0 _ _ _ h).trans (by simp)
  have h2 : ((w1.setCell ⟨g, 0, none⟩ y0).setCell ⟨g, 1, none⟩ y1).heap[g]? = some (.cells #[y0, y1, x2] T) := (heap_setCell_same (w1.setCell ⟨g, 0, none⟩ y0) g 1 _ _ _ h1).trans (by simp)
  have h3 : (((w1.setCell ⟨g, 0, none⟩ y0).setCell ⟨g, 1, none⟩ y1).setCell ⟨g, 2, none⟩ y2).heap[g]? = some (.cells #[y0, y1, y2] T) := (heap_setCell_same _ g 2 _ _ _ h2).trans (by simp)
  have hb : w1.grownBy (((w1.setCell ⟨g, 0, none⟩ y0).setCell ⟨g, 1, none⟩ y1).setCell ⟨g, 2, none⟩ y2) (some g) := grownBy_trans (grownBy_trans (grown_set _ g 0 _) (grown_set _ g 1 _)) (grown_set _ g 2 _)
  generalize (((w1.setCell ⟨g, 0, none⟩ y0).setCell ⟨g, 1, none⟩ y1).setCell ⟨g, 2, none⟩ y2) = w2 at h3 hb ⊢
  obtain ⟨⟨c0, c1, c2⟩, -, -⟩ := row3 h3
  exact bodyPost_ret (hres w2 c0 c1 c2) hd (hR w2 hb)
theorem box_two {w1 : World} (A B : Obj) : Below w1.heap.size w1 ((w1.alloc A).alloc B) := ((Below.refl _ _).alloc (Nat.le_refl _) A).alloc (by simp) B
theorem heap_three (w : World) (A B C : Obj) : (((w.alloc A).alloc B).alloc C).heap[w.heap.size]? = some A ∧ (((w.alloc A).alloc B).alloc C).heap[w.heap.size + 1]? = some B ∧ (((w.alloc A).alloc B).alloc C).heap[w.heap.size + 1 + 1]? = some C := by
  have h1 := heap_alloc_new w A
  have h2 := heap_alloc_new (w.alloc A) B
  have h3 := heap_alloc_new ((w.alloc A).alloc B) C
  simp only [World.size_alloc] at h2 h3
  have b1 := box_two (w1 := w.alloc A) B C
  have b2 := (Below.refl _ ((w.alloc A).alloc B)).alloc (Nat.le_refl _) C
  exact ⟨row_below h1 b1, row_below h2 b2, h3⟩

theorem refCanary_calls (b t : Int) (w : World) :
    Calls Tryz.prog 30 #[.int .i64 b, .int .i64 t] w fun e w' => e = .returned (.bool (canB b t)) ∧ w = w' := by
  unfold canB
  go_enter Tryz.func30, Tryz.ntmps30
  by_cases h1 : 0 ≤ b
  · by_cases h2 : b < t
    · rw [decide_eq_true h1, decide_eq_true h2]
      go_wp2
      go_ret
      exact ⟨rfl, rfl⟩
    · rw [decide_eq_true h1, decide_eq_false h2]
      go_wp2
      go_ret
      exact ⟨rfl, rfl⟩
  · rw [decide_eq_false h1, Bool.false_and]
    go_wp2
    go_ret
    exact ⟨rfl, rfl⟩
/-- where Choose stands once the ID is known: g is the route's block -/
structure ChA (w W : World) (g : Nat) (CONF ROLL : Obj) (id : ByteArray) (nw : Bool) : Prop where
  hc : W.heap[w.heap.size]? = some CONF
  hr : W.heap[w.heap.size + 1]? = some ROLL
  h0 : W.heap[w.heap.size + 1 + 1]? = some (.cells #[.int .i64 0, .string ⟨#[]⟩, .bool false] 40)
  hg : W.heap[g]? = some (.cells #[.int .i64 4, .string id, .bool nw] 40)
  hb : Below w.heap.size w W
  hl : w.heap.size + 3 ≤ g

theorem choose_calls (a0 a1 a2 a3 a4 a5 a6 a7 a8 a9 a10 a11 a12 a13 a14 a15 : Int) (p : Pl) (vw : Value) (salt cookie : ByteArray) (mir : Bool) (vig : Value) (st sg he t er ag : Int) (va : Value) (l : List Fld) (draw serial : Int) (w : World) (hE : EnvP w)
    (Hp : RdI w vw p.ws) (Ha : RdF w va l) (hl : fsize l ≤ 2000000) (hsalt : salt.size ≤ maxLen) (hd : In64 draw) (hs : In64 serial) :
    Calls Tryz.prog 9 #[.agg #[.int .i64 a0, .int .i64 a1, .int .i64 a2, .int .i64 a3, .int .i64 a4, .int .i64 a5, .int .i64 a6, .int .i64 a7, .int .i64 a8, .int .i64 a9, .int .i64 a10, .int .i64 a11, .int .i64 a12, .int .i64 a13, .int .i64 a14, .int .i64 a15, vw, .int .i64 p.ms, .int .i64 p.num, .int .i64 p.den, .int .i64 p.hold, .int .i64 p.win, .string salt, .string cookie, .bool mir, vig], .agg #[.int .i64 st, .int .i64 sg, .int .i64 he, .int .i64 t, .int .i64 er, .int .i64 ag], va, .int .i64 draw, .int .i64 serial] w fun e w' => e = .returned (routeV salt (rollW st sg p) (findP (pairsS (valuesS l cookieS)) cookie) (nidOf draw serial)) ∧ Below w.heap.size w w' := by
  have HB0 := box_two (w1 := w) (.cells #[.int .i64 a0, .int .i64 a1, .int .i64 a2, .int .i64 a3, .int .i64 a4, .int .i64 a5, .int .i64 a6, .int .i64 a7, .int .i64 a8, .int .i64 a9, .int .i64 a10, .int .i64 a11, .int .i64 a12, .int .i64 a13, .int .i64 a14, .int .i64 a15, vw, .int .i64 p.ms, .int .i64 p.num, .int .i64 p.den, .int .i64 p.hold, .int .i64 p.win, .string salt, .string cookie, .bool mir, vig] 28) (.cells #[.int .i64 st, .int .i64 sg, .int .i64 he, .int .i64 t, .int .i64 er, .int .i64 ag] 32)
  have HB0 := HB0.alloc (by simp; omega) (.cells #[.int .i64 0, .string ⟨#[]⟩, .bool false] 40)
  obtain ⟨hc0, hr0, h00⟩ := heap_three w (.cells #[.int .i64 a0, .int .i64 a1, .int .i64 a2, .int .i64 a3, .int .i64 a4, .int .i64 a5, .int .i64 a6, .int .i64 a7, .int .i64 a8, .int .i64 a9, .int .i64 a10, .int .i64 a11, .int .i64 a12, .int .i64 a13, .int .i64 a14, .int .i64 a15, vw, .int .i64 p.ms, .int .i64 p.num, .int .i64 p.den, .int .i64 p.hold, .int .i64 p.win, .string salt, .string cookie, .bool mir, vig] 28) (.cells #[.int .i64 st, .int .i64 sg, .int .i64 he, .int .i64 t, .int .i64 er, .int .i64 ag] 32) (.cells #[.int .i64 0, .string ⟨#[]⟩, .bool false] 40)
  have hsz0 : (((w.alloc (.cells #[.int .i64 a0, .int .i64 a1, .int .i64 a2, .int .i64 a3, .int .i64 a4, .int .i64 a5, .int .i64 a6, .int .i64 a7, .int .i64 a8, .int .i64 a9, .int .i64 a10, .int .i64 a11, .int .i64 a12, .int .i64 a13, .int .i64 a14, .int .i64 a15, vw, .int .i64 p.ms, .int .i64 p.num, .int .i64 p.den, .int .i64 p.hold, .int .i64 p.win, .string salt, .string cookie, .bool mir, vig] 28)).alloc (.cells #[.int .i64 st, .int .i64 sg, .int .i64 he, .int .i64 t, .int .i64 er, .int .i64 ag] 32)).alloc (.cells #[.int .i64 0, .string ⟨#[]⟩, .bool false] 40)).heap.size = w.heap.size + 3 := by simp
  have HP := Lib.hid Hp
  have CF := Lib.hid (fun w hE H => find_calls va l cookie w hE H hl)
  have CN := Lib.hid (fun w hE => (show Calls Tryz.prog 26 #[.int .i64 draw, .int .i64 serial] w fun e w' => e = .returned (.string (nidOf draw serial)) ∧ Below w.heap.size w w' from newID_calls draw serial w hE hd hs))
  have HV : ∀ o, routeV salt (rollW st sg p) o (nidOf draw serial) = .agg #[.int .i64 (classI salt (chosenI o (nidOf draw serial)) (rollW st sg p)), .string (chosenI o (nidOf draw serial)), .bool (newI o)] := fun _ => rfl
  have hvs : ∀ f, findP (pairsS (valuesS l cookieS)) cookie = some f → f.val.size ≤ 2000000 := by
    intro f hf
    obtain ⟨s, h1, -, h3⟩ := pairsS_mem (findP_mem hf)
    have := values_mem h1
    omega
  have hns : (nidOf draw serial).size = 16 := idOf_size _
  generalize findP (pairsS (valuesS l cookieS)) cookie = o at *
  generalize nidOf draw serial = nid at *
  have HV := Lib.hid (HV o)
  generalize routeV salt (rollW st sg p) o nid = RV at *
  have HE := Lib.hid hE
  clear Hp hE hd hs hl
  go_enter Tryz.func9, Tryz.ntmps9
  go_wp2_with fail
  generalize (((w.alloc (.cells #[.int .i64 a0, .int .i64 a1, .int .i64 a2, .int .i64 a3, .int .i64 a4, .int .i64 a5, .int .i64 a6, .int .i64 a7, .int .i64 a8, .int .i64 a9, .int .i64 a10, .int .i64 a11, .int .i64 a12, .int .i64 a13, .int .i64 a14, .int .i64 a15, vw, .int .i64 p.ms, .int .i64 p.num, .int .i64 p.den, .int .i64 p.hold, .int .i64 p.win, .string salt, .string cookie, .bool mir, vig] 28)).alloc (.cells #[.int .i64 st, .int .i64 sg, .int .i64 he, .int .i64 t, .int .i64 er, .int .i64 ag] 32)).alloc (.cells #[.int .i64 0, .string ⟨#[]⟩, .bool false] 40)) = w0 at *
  refine (CF.out _ (HE.out.env.below HB0) (Ha.below HB0)).mono ?_
  rintro e w1 ⟨rfl, hb1⟩
  have hgz : w.heap.size + 3 ≤ w1.heap.size := by rw [← hsz0]; exact hb1.size
  have hc1 := row_below hc0 hb1
  have hr1 := row_below hr0 hb1
  have h01 := row_below h00 hb1
  have HB1 := Below.self_trans HB0 hb1
  clear hc0 hr0 h00 hb1 HB0 CF hsz0 Ha
  have HA0 : ∀ id nw, ChA w (w1.alloc (.cells #[.int .i64 4, .string id, .bool nw] 40)) w1.heap.size (.cells #[.int .i64 a0, .int .i64 a1, .int .i64 a2, .int .i64 a3, .int .i64 a4, .int .i64 a5, .int .i64 a6, .int .i64 a7, .int .i64 a8, .int .i64 a9, .int .i64 a10, .int .i64 a11, .int .i64 a12, .int .i64 a13, .int .i64 a14, .int .i64 a15, vw, .int .i64 p.ms, .int .i64 p.num, .int .i64 p.den, .int .i64 p.hold, .int .i64 p.win, .string salt, .string cookie, .bool mir, vig] 28) (.cells #[.int .i64 st, .int .i64 sg, .int .i64 he, .int .i64 t, .int .i64 er, .int .i64 ag] 32) id nw := fun id nw =>
    have hx := (Below.refl w1.heap.size w1).alloc (Nat.le_refl _) (.cells #[.int .i64 4, .string id, .bool nw] 40)
    ⟨row_below hc1 hx, row_below hr1 hx, row_below h01 hx, heap_alloc_new _ _, Below.self_trans HB1 hx, hgz⟩
  have HAA := Lib.hid HA0
  clear HA0 hc1 hr1 h01
  cases o with
  | none =>
    unfold findV
    simp only
    go_wp2_with fail
    have HA := Lib.hid (HAA.out ⟨#[]⟩ false)
    generalize hg : w1.heap.size = g at *
    refine (CN.out _ (HE.out.below HA.out.hb)).mono ?_
    rintro e w2 ⟨rfl, hb2⟩
    have hgg := row_below HA.out.hg hb2
    have HID : Hid (chosenI none nid = nid ∧ newI none = true) := Lib.hid ⟨rfl, rfl⟩
    have hidz : nid.size ≤ maxLen := by rw [hns]; decide
    have hlg := HA.out.hl
    have hbw := Below.self_trans HA.out.hb hb2
    obtain ⟨⟨k0, k1, k2⟩, ⟨l0, l1, l2⟩, -⟩ := row3 hgg
    have q1 : (w2.setCell ⟨g, 1, none⟩ (.string nid)).heap[g]? = some (.cells #[.int .i64 4, .string nid, .bool false] 40) := (heap_setCell_same w2 g 1 _ _ _ hgg).trans (by simp)
    have q2 : ((w2.setCell ⟨g, 1, none⟩ (.string nid)).setCell ⟨g, 2, none⟩ (.bool true)).heap[g]? = some (.cells #[.int .i64 4, .string nid, .bool true] 40) := (heap_setCell_same _ g 2 _ _ _ q1).trans (by simp)
    have hgr := grownBy_trans (grown_set w2 g 1 (.string nid)) (grown_set _ g 2 (.bool true))
    have HA2 : ChA w ((w2.setCell ⟨g, 1, none⟩ (.string nid)).setCell ⟨g, 2, none⟩ (.bool true)) g (.cells #[.int .i64 a0, .int .i64 a1, .int .i64 a2, .int .i64 a3, .int .i64 a4, .int .i64 a5, .int .i64 a6, .int .i64 a7, .int .i64 a8, .int .i64 a9, .int .i64 a10, .int .i64 a11, .int .i64 a12, .int .i64 a13, .int .i64 a14, .int .i64 a15, vw, .int .i64 p.ms, .int .i64 p.num, .int .i64 p.den, .int .i64 p.hold, .int .i64 p.win, .string salt, .string cookie, .bool mir, vig] 28) (.cells #[.int .i64 st, .int .i64 sg, .int .i64 he, .int .i64 t, .int .i64 er, .int .i64 ag] 32) nid true :=
      ⟨(hgr.block _ (Array.getElem?_eq_some_iff.1 (row_below HA.out.hc hb2)).1 (by intro e; have := Option.some.inj e; omega)).trans (row_below HA.out.hc hb2),
       (hgr.block _ (Array.getElem?_eq_some_iff.1 (row_below HA.out.hr hb2)).1 (by intro e; have := Option.some.inj e; omega)).trans (row_below HA.out.hr hb2),
       (hgr.block _ (Array.getElem?_eq_some_iff.1 (row_below HA.out.h0 hb2)).1 (by intro e; have := Option.some.inj e; omega)).trans (row_below HA.out.h0 hb2),
       q2, (hbw.setCell (p := ⟨g, 1, none⟩) (by simp only; omega) _).setCell (p := ⟨g, 2, none⟩) (by simp only; omega) _, hlg⟩
    have HA := Lib.hid HA2
    clear HA2 q1 q2 hgr hgg hbw hb2 hvs hns HAA hgz HB1 CN
    go_upto_region 5 with fail
    clear k0 k1 k2 l0 l1 l2
    generalize ((w2.setCell ⟨g, 1, none⟩ (.string nid)).setCell ⟨g, 2, none⟩ (.bool true)) = W at *
    generalize nid = cid at *
    have hxs : ∀ x : After W, x.now.cell? ⟨w.heap.size, 22, none⟩ = some (.string salt) := fun x => x.keep (cell_of_row W _ 22 _ _ _ HA.out.hc)
    have hx0 : ∀ x : After W, x.now.cell? ⟨w.heap.size, 16, none⟩ = some vw := fun x => x.keep (cell_of_row W _ 16 _ _ _ HA.out.hc)
    have hx1 : ∀ x : After W, x.now.cell? ⟨w.heap.size, 17, none⟩ = some (.int .i64 p.ms) := fun x => x.keep (cell_of_row W _ 17 _ _ _ HA.out.hc)
    have hx2 : ∀ x : After W, x.now.cell? ⟨w.heap.size, 18, none⟩ = some (.int .i64 p.num) := fun x => x.keep (cell_of_row W _ 18 _ _ _ HA.out.hc)
    have hx3 : ∀ x : After W, x.now.cell? ⟨w.heap.size, 19, none⟩ = some (.int .i64 p.den) := fun x => x.keep (cell_of_row W _ 19 _ _ _ HA.out.hc)
    have hx4 : ∀ x : After W, x.now.cell? ⟨w.heap.size, 20, none⟩ = some (.int .i64 p.hold) := fun x => x.keep (cell_of_row W _ 20 _ _ _ HA.out.hc)
    have hx5 : ∀ x : After W, x.now.cell? ⟨w.heap.size, 21, none⟩ = some (.int .i64 p.win) := fun x => x.keep (cell_of_row W _ 21 _ _ _ HA.out.hc)
    have hy0 : ∀ x : After W, x.now.cell? ⟨w.heap.size + 1, 0, none⟩ = some (.int .i64 st) := fun x => x.keep (cell_of_row W _ 0 _ _ _ HA.out.hr)
    have hy1 : ∀ x : After W, x.now.cell? ⟨w.heap.size + 1, 1, none⟩ = some (.int .i64 sg) := fun x => x.keep (cell_of_row W _ 1 _ _ _ HA.out.hr)
    have hy2 : ∀ x : After W, x.now.cell? ⟨w.heap.size + 1, 2, none⟩ = some (.int .i64 he) := fun x => x.keep (cell_of_row W _ 2 _ _ _ HA.out.hr)
    have hy3 : ∀ x : After W, x.now.cell? ⟨w.heap.size + 1, 3, none⟩ = some (.int .i64 t) := fun x => x.keep (cell_of_row W _ 3 _ _ _ HA.out.hr)
    have hy4 : ∀ x : After W, x.now.cell? ⟨w.heap.size + 1, 4, none⟩ = some (.int .i64 er) := fun x => x.keep (cell_of_row W _ 4 _ _ _ HA.out.hr)
    have hy5 : ∀ x : After W, x.now.cell? ⟨w.heap.size + 1, 5, none⟩ = some (.int .i64 ag) := fun x => x.keep (cell_of_row W _ 5 _ _ _ HA.out.hr)
    have hz1 : ∀ x : After W, x.now.cell? ⟨g, 1, none⟩ = some (.string cid) := fun x => x.keep (cell_of_row W _ 1 _ _ _ HA.out.hg)
    have hP : ∀ x : After W, PlV x.now (.agg #[vw, .int .i64 p.ms, .int .i64 p.num, .int .i64 p.den, .int .i64 p.hold, .int .i64 p.win]) p := fun x => ⟨vw, rfl, (HP.out.below HA.out.hb).below x.h⟩
    have CW := Lib.hid (fun (x : After W) => rollW_calls p _ st sg he t er ag _ (hP x))
    have CB := Lib.hid (fun (x : After W) => bof_calls salt cid x.now hsalt hidz)
    refine wp_region_below (by kernel_rfl) (by kernel_rfl) ?_
    repeat (go_big_quiet_step ((first
      | (go_at_call 13; exact After.call (CB.out _))
      | (go_at_call 12; exact After.call (CW.out _))
      | (go_at_call 27; exact After.same (canary_calls _ _ _)))))
    refine wpQuiet_nil ?_
    rintro w9 ⟨x, rfl⟩
    have HA := Lib.hid (ChA.mk (row_below HA.out.hc x.h) (row_below HA.out.hr x.h) (row_below HA.out.h0 x.h) (row_below HA.out.hg x.h) (Below.self_trans HA.out.hb x.h) HA.out.hl)
    clear hxs hx0 hx1 hx2 hx3 hx4 hx5 hy0 hy1 hy2 hy3 hy4 hy5 hz1 hP CW CB
    generalize x.now = W9 at *
    obtain ⟨⟨k0, k1, k2⟩, ⟨l0, l1, l2⟩, -⟩ := row3 HA.out.hg
    obtain ⟨⟨d0, d1, d2⟩, ⟨e0, e1, e2⟩, -⟩ := row3 HA.out.h0
    cases hcb : canB (bucketI salt cid) (rollW st sg p) with
    | false =>
      have HQ := Lib.hid hcb
      clear hcb
      go_wp2
      exact fin3g id HA.out.h0 (fun w2 c0 c1 c2 => by simp [results, Tryz.results9, go_sem, c0, c1, c2]) rfl (fun w5 hgr => ⟨by rw [HV.out, HID.out.1, HID.out.2, classI, HQ.out]; rfl, below_src HA.out.hb hgr (by omega)⟩)
    | true =>
      have HQ := Lib.hid hcb
      clear hcb
      go_upto_region 7 with fail
      have hl := HA.out.hl
      have hgg : (W9.setCell ⟨g, 0, none⟩ (.int .i64 5)).heap[g]? = some (.cells #[.int .i64 5, .string cid, .bool true] 40) := (heap_setCell_same W9 g 0 _ _ _ HA.out.hg).trans (by simp)
      have hgr0 := grown_set W9 g 0 (.int .i64 5)
      have h00 := Lib.hid ((hgr0.block _ (Array.getElem?_eq_some_iff.1 HA.out.h0).1 (by intro e; have := Option.some.inj e; omega)).trans HA.out.h0)
      have HB9 := Lib.hid (HA.out.hb.setCell (p := ⟨g, 0, none⟩) (by simp only; omega) (.int .i64 5))
      clear k0 k1 k2 l0 l1 l2 d0 d1 d2 e0 e1 e2 hgr0
      generalize W9.setCell ⟨g, 0, none⟩ (.int .i64 5) = W8 at *
      obtain ⟨⟨k0, k1, k2⟩, ⟨l0, l1, l2⟩, -⟩ := row3 hgg
      obtain ⟨⟨d0, d1, d2⟩, ⟨e0, e1, e2⟩, -⟩ := row3 h00.out
      clear hgg
      go_wp2
      exact fin3g id h00.out (fun w2 c0 c1 c2 => by simp [results, Tryz.results9, go_sem, c0, c1, c2]) rfl (fun w5 hgr => ⟨by rw [HV.out, HID.out.1, HID.out.2, classI, HQ.out]; rfl, below_src HB9.out hgr (by omega)⟩)
  | some f =>
    have hfz : f.val.size ≤ maxLen := by have := hvs f rfl; simp [maxLen]; omega
    unfold findV
    simp only
    go_wp2_with fail
    refine (cid_calls f.val _ hfz).mono ?_
    rintro e w3 ⟨rfl, HI2⟩
    have HI := And.intro True.intro HI2
    clear HI2
    have HA := Lib.hid (HAA.out f.val false)
    generalize hg : w1.heap.size = g at *
    have HA := Lib.hid (ChA.mk (row_below HA.out.hc HI.2) (row_below HA.out.hr HI.2) (row_below HA.out.h0 HI.2) (row_below HA.out.hg HI.2) (Below.self_trans HA.out.hb HI.2) HA.out.hl)
    cases hib : idB f.val with
    | true =>
      have HID : Hid (chosenI (some f) nid = f.val ∧ newI (some f) = false) := Lib.hid ⟨by unfold chosenI; simp [hib], by unfold newI; simp [hib]⟩
      obtain ⟨⟨k0, k1, k2⟩, ⟨l0, l1, l2⟩, -⟩ := row3 HA.out.hg
      have hidz := hfz
      clear hvs hns HAA HI hfz CN hgz HB1
      go_upto_region 5 with fail
      clear k0 k1 k2 l0 l1 l2
      generalize f.val = cid at *
      generalize w3 = W at *
      have hxs : ∀ x : After W, x.now.cell? ⟨w.heap.size, 22, none⟩ = some (.string salt) := fun x => x.keep (cell_of_row W _ 22 _ _ _ HA.out.hc)
      have hx0 : ∀ x : After W, x.now.cell? ⟨w.heap.size, 16, none⟩ = some vw := fun x => x.keep (cell_of_row W _ 16 _ _ _ HA.out.hc)
      have hx1 : ∀ x : After W, x.now.cell? ⟨w.heap.size, 17, none⟩ = some (.int .i64 p.ms) := fun x => x.keep (cell_of_row W _ 17 _ _ _ HA.out.hc)
      have hx2 : ∀ x : After W, x.now.cell? ⟨w.heap.size, 18, none⟩ = some (.int .i64 p.num) := fun x => x.keep (cell_of_row W _ 18 _ _ _ HA.out.hc)
      have hx3 : ∀ x : After W, x.now.cell? ⟨w.heap.size, 19, none⟩ = some (.int .i64 p.den) := fun x => x.keep (cell_of_row W _ 19 _ _ _ HA.out.hc)
      have hx4 : ∀ x : After W, x.now.cell? ⟨w.heap.size, 20, none⟩ = some (.int .i64 p.hold) := fun x => x.keep (cell_of_row W _ 20 _ _ _ HA.out.hc)
      have hx5 : ∀ x : After W, x.now.cell? ⟨w.heap.size, 21, none⟩ = some (.int .i64 p.win) := fun x => x.keep (cell_of_row W _ 21 _ _ _ HA.out.hc)
      have hy0 : ∀ x : After W, x.now.cell? ⟨w.heap.size + 1, 0, none⟩ = some (.int .i64 st) := fun x => x.keep (cell_of_row W _ 0 _ _ _ HA.out.hr)
      have hy1 : ∀ x : After W, x.now.cell? ⟨w.heap.size + 1, 1, none⟩ = some (.int .i64 sg) := fun x => x.keep (cell_of_row W _ 1 _ _ _ HA.out.hr)
      have hy2 : ∀ x : After W, x.now.cell? ⟨w.heap.size + 1, 2, none⟩ = some (.int .i64 he) := fun x => x.keep (cell_of_row W _ 2 _ _ _ HA.out.hr)
      have hy3 : ∀ x : After W, x.now.cell? ⟨w.heap.size + 1, 3, none⟩ = some (.int .i64 t) := fun x => x.keep (cell_of_row W _ 3 _ _ _ HA.out.hr)
      have hy4 : ∀ x : After W, x.now.cell? ⟨w.heap.size + 1, 4, none⟩ = some (.int .i64 er) := fun x => x.keep (cell_of_row W _ 4 _ _ _ HA.out.hr)
      have hy5 : ∀ x : After W, x.now.cell? ⟨w.heap.size + 1, 5, none⟩ = some (.int .i64 ag) := fun x => x.keep (cell_of_row W _ 5 _ _ _ HA.out.hr)
      have hz1 : ∀ x : After W, x.now.cell? ⟨g, 1, none⟩ = some (.string cid) := fun x => x.keep (cell_of_row W _ 1 _ _ _ HA.out.hg)
      have hP : ∀ x : After W, PlV x.now (.agg #[vw, .int .i64 p.ms, .int .i64 p.num, .int .i64 p.den, .int .i64 p.hold, .int .i64 p.win]) p := fun x => ⟨vw, rfl, (HP.out.below HA.out.hb).below x.h⟩
      have CW := Lib.hid (fun (x : After W) => rollW_calls p _ st sg he t er ag _ (hP x))
      have CB := Lib.hid (fun (x : After W) => bof_calls salt cid x.now hsalt hidz)
      refine wp_region_below (by kernel_rfl) (by kernel_rfl) ?_
      repeat (go_big_quiet_step ((first
        | (go_at_call 13; exact After.call (CB.out _))
        | (go_at_call 12; exact After.call (CW.out _))
        | (go_at_call 27; exact After.same (canary_calls _ _ _)))))
      refine wpQuiet_nil ?_
      rintro w9 ⟨x, rfl⟩
      have HA := Lib.hid (ChA.mk (row_below HA.out.hc x.h) (row_below HA.out.hr x.h) (row_below HA.out.h0 x.h) (row_below HA.out.hg x.h) (Below.self_trans HA.out.hb x.h) HA.out.hl)
      clear hxs hx0 hx1 hx2 hx3 hx4 hx5 hy0 hy1 hy2 hy3 hy4 hy5 hz1 hP CW CB
      generalize x.now = W9 at *
      obtain ⟨⟨k0, k1, k2⟩, ⟨l0, l1, l2⟩, -⟩ := row3 HA.out.hg
      obtain ⟨⟨d0, d1, d2⟩, ⟨e0, e1, e2⟩, -⟩ := row3 HA.out.h0
      cases hcb : canB (bucketI salt cid) (rollW st sg p) with
      | false =>
        have HQ := Lib.hid hcb
        clear hcb
        go_wp2
        exact fin3g id HA.out.h0 (fun w2 c0 c1 c2 => by simp [results, Tryz.results9, go_sem, c0, c1, c2]) rfl (fun w5 hgr => ⟨by rw [HV.out, HID.out.1, HID.out.2, classI, HQ.out]; rfl, below_src HA.out.hb hgr (by omega)⟩)
      | true =>
        have HQ := Lib.hid hcb
        clear hcb
        go_upto_region 7 with fail
        have hl := HA.out.hl
        have hgg : (W9.setCell ⟨g, 0, none⟩ (.int .i64 5)).heap[g]? = some (.cells #[.int .i64 5, .string cid, .bool false] 40) := (heap_setCell_same W9 g 0 _ _ _ HA.out.hg).trans (by simp)
        have hgr0 := grown_set W9 g 0 (.int .i64 5)
        have h00 := Lib.hid ((hgr0.block _ (Array.getElem?_eq_some_iff.1 HA.out.h0).1 (by intro e; have := Option.some.inj e; omega)).trans HA.out.h0)
        have HB9 := Lib.hid (HA.out.hb.setCell (p := ⟨g, 0, none⟩) (by simp only; omega) (.int .i64 5))
        clear k0 k1 k2 l0 l1 l2 d0 d1 d2 e0 e1 e2 hgr0
        generalize W9.setCell ⟨g, 0, none⟩ (.int .i64 5) = W8 at *
        obtain ⟨⟨k0, k1, k2⟩, ⟨l0, l1, l2⟩, -⟩ := row3 hgg
        obtain ⟨⟨d0, d1, d2⟩, ⟨e0, e1, e2⟩, -⟩ := row3 h00.out
        clear hgg
        go_wp2
        exact fin3g id h00.out (fun w2 c0 c1 c2 => by simp [results, Tryz.results9, go_sem, c0, c1, c2]) rfl (fun w5 hgr => ⟨by rw [HV.out, HID.out.1, HID.out.2, classI, HQ.out]; rfl, below_src HB9.out hgr (by omega)⟩)
    | false =>
      obtain ⟨⟨k0, k1, k2⟩, ⟨l0, l1, l2⟩, -⟩ := row3 HA.out.hg
      go_wp2_with fail
      refine (CN.out _ (HE.out.below HA.out.hb)).mono ?_
      rintro e w2 ⟨rfl, hb2⟩
      have hgg := row_below HA.out.hg hb2
      have HID : Hid (chosenI (some f) nid = nid ∧ newI (some f) = true) := Lib.hid ⟨by unfold chosenI; simp [hib], by unfold newI; simp [hib]⟩
      have hidz : nid.size ≤ maxLen := by rw [hns]; decide
      have hlg := HA.out.hl
      have hbw := Below.self_trans HA.out.hb hb2
      obtain ⟨⟨k0, k1, k2⟩, ⟨l0, l1, l2⟩, -⟩ := row3 hgg
      have q1 : (w2.setCell ⟨g, 1, none⟩ (.string nid)).heap[g]? = some (.cells #[.int .i64 4, .string nid, .bool false] 40) := (heap_setCell_same w2 g 1 _ _ _ hgg).trans (by simp)
      have q2 : ((w2.setCell ⟨g, 1, none⟩ (.string nid)).setCell ⟨g, 2, none⟩ (.bool true)).heap[g]? = some (.cells #[.int .i64 4, .string nid, .bool true] 40) := (heap_setCell_same _ g 2 _ _ _ q1).trans (by simp)
      have hgr := grownBy_trans (grown_set w2 g 1 (.string nid)) (grown_set _ g 2 (.bool true))
      have HA2 : ChA w ((w2.setCell ⟨g, 1, none⟩ (.string nid)).setCell ⟨g, 2, none⟩ (.bool true)) g (.cells #[.int .i64 a0, .int .i64 a1, .int .i64 a2, .int .i64 a3, .int .i64 a4, .int .i64 a5, .int .i64 a6, .int .i64 a7, .int .i64 a8, .int .i64 a9, .int .i64 a10, .int .i64 a11, .int .i64 a12, .int .i64 a13, .int .i64 a14, .int .i64 a15, vw, .int .i64 p.ms, .int .i64 p.num, .int .i64 p.den, .int .i64 p.hold, .int .i64 p.win, .string salt, .string cookie, .bool mir, vig] 28) (.cells #[.int .i64 st, .int .i64 sg, .int .i64 he, .int .i64 t, .int .i64 er, .int .i64 ag] 32) nid true :=
        ⟨(hgr.block _ (Array.getElem?_eq_some_iff.1 (row_below HA.out.hc hb2)).1 (by intro e; have := Option.some.inj e; omega)).trans (row_below HA.out.hc hb2),
         (hgr.block _ (Array.getElem?_eq_some_iff.1 (row_below HA.out.hr hb2)).1 (by intro e; have := Option.some.inj e; omega)).trans (row_below HA.out.hr hb2),
         (hgr.block _ (Array.getElem?_eq_some_iff.1 (row_below HA.out.h0 hb2)).1 (by intro e; have := Option.some.inj e; omega)).trans (row_below HA.out.h0 hb2),
         q2, (hbw.setCell (p := ⟨g, 1, none⟩) (by simp only; omega) _).setCell (p := ⟨g, 2, none⟩) (by simp only; omega) _, hlg⟩
      have HA := Lib.hid HA2
      clear HA2 q1 q2 hgr hgg hbw hb2 hvs hns HAA hgz HB1 CN
      go_upto_region 5 with fail
      clear k0 k1 k2 l0 l1 l2
      generalize ((w2.setCell ⟨g, 1, none⟩ (.string nid)).setCell ⟨g, 2, none⟩ (.bool true)) = W at *
      generalize nid = cid at *
      have hxs : ∀ x : After W, x.now.cell? ⟨w.heap.size, 22, none⟩ = some (.string salt) := fun x => x.keep (cell_of_row W _ 22 _ _ _ HA.out.hc)
      have hx0 : ∀ x : After W, x.now.cell? ⟨w.heap.size, 16, none⟩ = some vw := fun x => x.keep (cell_of_row W _ 16 _ _ _ HA.out.hc)
      have hx1 : ∀ x : After W, x.now.cell? ⟨w.heap.size, 17, none⟩ = some (.int .i64 p.ms) := fun x => x.keep (cell_of_row W _ 17 _ _ _ HA.out.hc)
      have hx2 : ∀ x : After W, x.now.cell? ⟨w.heap.size, 18, none⟩ = some (.int .i64 p.num) := fun x => x.keep (cell_of_row W _ 18 _ _ _ HA.out.hc)
      have hx3 : ∀ x : After W, x.now.cell? ⟨w.heap.size, 19, none⟩ = some (.int .i64 p.den) := fun x => x.keep (cell_of_row W _ 19 _ _ _ HA.out.hc)
      have hx4 : ∀ x : After W, x.now.cell? ⟨w.heap.size, 20, none⟩ = some (.int .i64 p.hold) := fun x => x.keep (cell_of_row W _ 20 _ _ _ HA.out.hc)
      have hx5 : ∀ x : After W, x.now.cell? ⟨w.heap.size, 21, none⟩ = some (.int .i64 p.win) := fun x => x.keep (cell_of_row W _ 21 _ _ _ HA.out.hc)
      have hy0 : ∀ x : After W, x.now.cell? ⟨w.heap.size + 1, 0, none⟩ = some (.int .i64 st) := fun x => x.keep (cell_of_row W _ 0 _ _ _ HA.out.hr)
      have hy1 : ∀ x : After W, x.now.cell? ⟨w.heap.size + 1, 1, none⟩ = some (.int .i64 sg) := fun x => x.keep (cell_of_row W _ 1 _ _ _ HA.out.hr)
      have hy2 : ∀ x : After W, x.now.cell? ⟨w.heap.size + 1, 2, none⟩ = some (.int .i64 he) := fun x => x.keep (cell_of_row W _ 2 _ _ _ HA.out.hr)
      have hy3 : ∀ x : After W, x.now.cell? ⟨w.heap.size + 1, 3, none⟩ = some (.int .i64 t) := fun x => x.keep (cell_of_row W _ 3 _ _ _ HA.out.hr)
      have hy4 : ∀ x : After W, x.now.cell? ⟨w.heap.size + 1, 4, none⟩ = some (.int .i64 er) := fun x => x.keep (cell_of_row W _ 4 _ _ _ HA.out.hr)
      have hy5 : ∀ x : After W, x.now.cell? ⟨w.heap.size + 1, 5, none⟩ = some (.int .i64 ag) := fun x => x.keep (cell_of_row W _ 5 _ _ _ HA.out.hr)
      have hz1 : ∀ x : After W, x.now.cell? ⟨g, 1, none⟩ = some (.string cid) := fun x => x.keep (cell_of_row W _ 1 _ _ _ HA.out.hg)
      have hP : ∀ x : After W, PlV x.now (.agg #[vw, .int .i64 p.ms, .int .i64 p.num, .int .i64 p.den, .int .i64 p.hold, .int .i64 p.win]) p := fun x => ⟨vw, rfl, (HP.out.below HA.out.hb).below x.h⟩
      have CW := Lib.hid (fun (x : After W) => rollW_calls p _ st sg he t er ag _ (hP x))
      have CB := Lib.hid (fun (x : After W) => bof_calls salt cid x.now hsalt hidz)
      refine wp_region_below (by kernel_rfl) (by kernel_rfl) ?_
      repeat (go_big_quiet_step ((first
        | (go_at_call 13; exact After.call (CB.out _))
        | (go_at_call 12; exact After.call (CW.out _))
        | (go_at_call 27; exact After.same (canary_calls _ _ _)))))
      refine wpQuiet_nil ?_
      rintro w9 ⟨x, rfl⟩
      have HA := Lib.hid (ChA.mk (row_below HA.out.hc x.h) (row_below HA.out.hr x.h) (row_below HA.out.h0 x.h) (row_below HA.out.hg x.h) (Below.self_trans HA.out.hb x.h) HA.out.hl)
      clear hxs hx0 hx1 hx2 hx3 hx4 hx5 hy0 hy1 hy2 hy3 hy4 hy5 hz1 hP CW CB
      generalize x.now = W9 at *
      obtain ⟨⟨k0, k1, k2⟩, ⟨l0, l1, l2⟩, -⟩ := row3 HA.out.hg
      obtain ⟨⟨d0, d1, d2⟩, ⟨e0, e1, e2⟩, -⟩ := row3 HA.out.h0
      cases hcb : canB (bucketI salt cid) (rollW st sg p) with
      | false =>
        have HQ := Lib.hid hcb
        clear hcb
        go_wp2
        exact fin3g id HA.out.h0 (fun w2 c0 c1 c2 => by simp [results, Tryz.results9, go_sem, c0, c1, c2]) rfl (fun w5 hgr => ⟨by rw [HV.out, HID.out.1, HID.out.2, classI, HQ.out]; rfl, below_src HA.out.hb hgr (by omega)⟩)
      | true =>
        have HQ := Lib.hid hcb
        clear hcb
        go_upto_region 7 with fail
        have hl := HA.out.hl
        have hgg : (W9.setCell ⟨g, 0, none⟩ (.int .i64 5)).heap[g]? = some (.cells #[.int .i64 5, .string cid, .bool true] 40) := (heap_setCell_same W9 g 0 _ _ _ HA.out.hg).trans (by simp)
        have hgr0 := grown_set W9 g 0 (.int .i64 5)
        have h00 := Lib.hid ((hgr0.block _ (Array.getElem?_eq_some_iff.1 HA.out.h0).1 (by intro e; have := Option.some.inj e; omega)).trans HA.out.h0)
        have HB9 := Lib.hid (HA.out.hb.setCell (p := ⟨g, 0, none⟩) (by simp only; omega) (.int .i64 5))
        clear k0 k1 k2 l0 l1 l2 d0 d1 d2 e0 e1 e2 hgr0
        generalize W9.setCell ⟨g, 0, none⟩ (.int .i64 5) = W8 at *
        obtain ⟨⟨k0, k1, k2⟩, ⟨l0, l1, l2⟩, -⟩ := row3 hgg
        obtain ⟨⟨d0, d1, d2⟩, ⟨e0, e1, e2⟩, -⟩ := row3 h00.out
        clear hgg
        go_wp2
        exact fin3g id h00.out (fun w2 c0 c1 c2 => by simp [results, Tryz.results9, go_sem, c0, c1, c2]) rfl (fun w5 hgr => ⟨by rw [HV.out, HID.out.1, HID.out.2, classI, HQ.out]; rfl, below_src HB9.out hgr (by omega)⟩)

theorem refChoose_calls (a0 a1 a2 a3 a4 a5 a6 a7 a8 a9 a10 a11 a12 a13 a14 a15 : Int) (p : Pl) (vw : Value) (salt cookie : ByteArray) (mir : Bool) (vig : Value) (st sg he t er ag : Int) (va : Value) (l : List Fld) (draw serial : Int) (w : World) (hE : EnvP w)
    (Hp : RdI w vw p.ws) (Ha : RdF w va l) (hl : fsize l ≤ 2000000) (hsalt : salt.size ≤ maxLen) (hd : In64 draw) (hs : In64 serial) :
    Calls Tryz.prog 10 #[.agg #[.int .i64 a0, .int .i64 a1, .int .i64 a2, .int .i64 a3, .int .i64 a4, .int .i64 a5, .int .i64 a6, .int .i64 a7, .int .i64 a8, .int .i64 a9, .int .i64 a10, .int .i64 a11, .int .i64 a12, .int .i64 a13, .int .i64 a14, .int .i64 a15, vw, .int .i64 p.ms, .int .i64 p.num, .int .i64 p.den, .int .i64 p.hold, .int .i64 p.win, .string salt, .string cookie, .bool mir, vig], .agg #[.int .i64 st, .int .i64 sg, .int .i64 he, .int .i64 t, .int .i64 er, .int .i64 ag], va, .int .i64 draw, .int .i64 serial] w fun e w' => e = .returned (routeV salt (rollW st sg p) (findP (pairsS (valuesS l cookieS)) cookie) (nidOf draw serial)) ∧ Below w.heap.size w w' := by
  have HB0 := box_two (w1 := w) (.cells #[.int .i64 a0, .int .i64 a1, .int .i64 a2, .int .i64 a3, .int .i64 a4, .int .i64 a5, .int .i64 a6, .int .i64 a7, .int .i64 a8, .int .i64 a9, .int .i64 a10, .int .i64 a11, .int .i64 a12, .int .i64 a13, .int .i64 a14, .int .i64 a15, vw, .int .i64 p.ms, .int .i64 p.num, .int .i64 p.den, .int .i64 p.hold, .int .i64 p.win, .string salt, .string cookie, .bool mir, vig] 28) (.cells #[.int .i64 st, .int .i64 sg, .int .i64 he, .int .i64 t, .int .i64 er, .int .i64 ag] 32)
  have HB0 := HB0.alloc (by simp; omega) (.cells #[.int .i64 0, .string ⟨#[]⟩, .bool false] 40)
  obtain ⟨hc0, hr0, h00⟩ := heap_three w (.cells #[.int .i64 a0, .int .i64 a1, .int .i64 a2, .int .i64 a3, .int .i64 a4, .int .i64 a5, .int .i64 a6, .int .i64 a7, .int .i64 a8, .int .i64 a9, .int .i64 a10, .int .i64 a11, .int .i64 a12, .int .i64 a13, .int .i64 a14, .int .i64 a15, vw, .int .i64 p.ms, .int .i64 p.num, .int .i64 p.den, .int .i64 p.hold, .int .i64 p.win, .string salt, .string cookie, .bool mir, vig] 28) (.cells #[.int .i64 st, .int .i64 sg, .int .i64 he, .int .i64 t, .int .i64 er, .int .i64 ag] 32) (.cells #[.int .i64 0, .string ⟨#[]⟩, .bool false] 40)
  have hsz0 : (((w.alloc (.cells #[.int .i64 a0, .int .i64 a1, .int .i64 a2, .int .i64 a3, .int .i64 a4, .int .i64 a5, .int .i64 a6, .int .i64 a7, .int .i64 a8, .int .i64 a9, .int .i64 a10, .int .i64 a11, .int .i64 a12, .int .i64 a13, .int .i64 a14, .int .i64 a15, vw, .int .i64 p.ms, .int .i64 p.num, .int .i64 p.den, .int .i64 p.hold, .int .i64 p.win, .string salt, .string cookie, .bool mir, vig] 28)).alloc (.cells #[.int .i64 st, .int .i64 sg, .int .i64 he, .int .i64 t, .int .i64 er, .int .i64 ag] 32)).alloc (.cells #[.int .i64 0, .string ⟨#[]⟩, .bool false] 40)).heap.size = w.heap.size + 3 := by simp
  have HP := Lib.hid Hp
  have CF := Lib.hid (fun w (_ : True) H => refFind_calls va l cookie w H hl)
  have CN := Lib.hid (fun w (_ : True) => (show Calls Tryz.prog 11 #[.int .i64 draw, .int .i64 serial] w fun e w' => e = .returned (.string (nidOf draw serial)) ∧ Below w.heap.size w w' from refNewID_calls draw serial w hd hs))
  have HV : ∀ o, routeV salt (rollW st sg p) o (nidOf draw serial) = .agg #[.int .i64 (classI salt (chosenI o (nidOf draw serial)) (rollW st sg p)), .string (chosenI o (nidOf draw serial)), .bool (newI o)] := fun _ => rfl
  have hvs : ∀ f, findP (pairsS (valuesS l cookieS)) cookie = some f → f.val.size ≤ 2000000 := by
    intro f hf
    obtain ⟨s, h1, -, h3⟩ := pairsS_mem (findP_mem hf)
    have := values_mem h1
    omega
  have hns : (nidOf draw serial).size = 16 := idOf_size _
  generalize findP (pairsS (valuesS l cookieS)) cookie = o at *
  generalize nidOf draw serial = nid at *
  have HV := Lib.hid (HV o)
  generalize routeV salt (rollW st sg p) o nid = RV at *
  have HE := Lib.hid hE
  clear Hp hE hd hs hl
  go_enter Tryz.func10, Tryz.ntmps10
  go_wp2_with fail
  generalize (((w.alloc (.cells #[.int .i64 a0, .int .i64 a1, .int .i64 a2, .int .i64 a3, .int .i64 a4, .int .i64 a5, .int .i64 a6, .int .i64 a7, .int .i64 a8, .int .i64 a9, .int .i64 a10, .int .i64 a11, .int .i64 a12, .int .i64 a13, .int .i64 a14, .int .i64 a15, vw, .int .i64 p.ms, .int .i64 p.num, .int .i64 p.den, .int .i64 p.hold, .int .i64 p.win, .string salt, .string cookie, .bool mir, vig] 28)).alloc (.cells #[.int .i64 st, .int .i64 sg, .int .i64 he, .int .i64 t, .int .i64 er, .int .i64 ag] 32)).alloc (.cells #[.int .i64 0, .string ⟨#[]⟩, .bool false] 40)) = w0 at *
  refine (CF.out _ trivial (Ha.below HB0)).mono ?_
  rintro e w1 ⟨rfl, hb1⟩
  have hgz : w.heap.size + 3 ≤ w1.heap.size := by rw [← hsz0]; exact hb1.size
  have hc1 := row_below hc0 hb1
  have hr1 := row_below hr0 hb1
  have h01 := row_below h00 hb1
  have HB1 := Below.self_trans HB0 hb1
  clear hc0 hr0 h00 hb1 HB0 CF hsz0 Ha
  have HA0 : ∀ id nw, ChA w (w1.alloc (.cells #[.int .i64 4, .string id, .bool nw] 40)) w1.heap.size (.cells #[.int .i64 a0, .int .i64 a1, .int .i64 a2, .int .i64 a3, .int .i64 a4, .int .i64 a5, .int .i64 a6, .int .i64 a7, .int .i64 a8, .int .i64 a9, .int .i64 a10, .int .i64 a11, .int .i64 a12, .int .i64 a13, .int .i64 a14, .int .i64 a15, vw, .int .i64 p.ms, .int .i64 p.num, .int .i64 p.den, .int .i64 p.hold, .int .i64 p.win, .string salt, .string cookie, .bool mir, vig] 28) (.cells #[.int .i64 st, .int .i64 sg, .int .i64 he, .int .i64 t, .int .i64 er, .int .i64 ag] 32) id nw := fun id nw =>
    have hx := (Below.refl w1.heap.size w1).alloc (Nat.le_refl _) (.cells #[.int .i64 4, .string id, .bool nw] 40)
    ⟨row_below hc1 hx, row_below hr1 hx, row_below h01 hx, heap_alloc_new _ _, Below.self_trans HB1 hx, hgz⟩
  have HAA := Lib.hid HA0
  clear HA0 hc1 hr1 h01
  cases o with
  | none =>
    unfold findV
    simp only
    go_wp2_with fail
    have HA := Lib.hid (HAA.out ⟨#[]⟩ false)
    generalize hg : w1.heap.size = g at *
    refine (CN.out _ trivial).mono ?_
    rintro e w2 ⟨rfl, hb2⟩
    have hgg := row_below HA.out.hg hb2
    have HID : Hid (chosenI none nid = nid ∧ newI none = true) := Lib.hid ⟨rfl, rfl⟩
    have hidz : nid.size ≤ maxLen := by rw [hns]; decide
    have hlg := HA.out.hl
    have hbw := Below.self_trans HA.out.hb hb2
    obtain ⟨⟨k0, k1, k2⟩, ⟨l0, l1, l2⟩, -⟩ := row3 hgg
    have q1 : (w2.setCell ⟨g, 1, none⟩ (.string nid)).heap[g]? = some (.cells #[.int .i64 4, .string nid, .bool false] 40) := (heap_setCell_same w2 g 1 _ _ _ hgg).trans (by simp)
    have q2 : ((w2.setCell ⟨g, 1, none⟩ (.string nid)).setCell ⟨g, 2, none⟩ (.bool true)).heap[g]? = some (.cells #[.int .i64 4, .string nid, .bool true] 40) := (heap_setCell_same _ g 2 _ _ _ q1).trans (by simp)
    have hgr := grownBy_trans (grown_set w2 g 1 (.string nid)) (grown_set _ g 2 (.bool true))
    have HA2 : ChA w ((w2.setCell ⟨g, 1, none⟩ (.string nid)).setCell ⟨g, 2, none⟩ (.bool true)) g (.cells #[.int .i64 a0, .int .i64 a1, .int .i64 a2, .int .i64 a3, .int .i64 a4, .int .i64 a5, .int .i64 a6, .int .i64 a7, .int .i64 a8, .int .i64 a9, .int .i64 a10, .int .i64 a11, .int .i64 a12, .int .i64 a13, .int .i64 a14, .int .i64 a15, vw, .int .i64 p.ms, .int .i64 p.num, .int .i64 p.den, .int .i64 p.hold, .int .i64 p.win, .string salt, .string cookie, .bool mir, vig] 28) (.cells #[.int .i64 st, .int .i64 sg, .int .i64 he, .int .i64 t, .int .i64 er, .int .i64 ag] 32) nid true :=
      ⟨(hgr.block _ (Array.getElem?_eq_some_iff.1 (row_below HA.out.hc hb2)).1 (by intro e; have := Option.some.inj e; omega)).trans (row_below HA.out.hc hb2),
       (hgr.block _ (Array.getElem?_eq_some_iff.1 (row_below HA.out.hr hb2)).1 (by intro e; have := Option.some.inj e; omega)).trans (row_below HA.out.hr hb2),
       (hgr.block _ (Array.getElem?_eq_some_iff.1 (row_below HA.out.h0 hb2)).1 (by intro e; have := Option.some.inj e; omega)).trans (row_below HA.out.h0 hb2),
       q2, (hbw.setCell (p := ⟨g, 1, none⟩) (by simp only; omega) _).setCell (p := ⟨g, 2, none⟩) (by simp only; omega) _, hlg⟩
    have HA := Lib.hid HA2
    clear HA2 q1 q2 hgr hgg hbw hb2 hvs hns HAA hgz HB1 CN
    go_upto_region 5 with fail
    clear k0 k1 k2 l0 l1 l2
    generalize ((w2.setCell ⟨g, 1, none⟩ (.string nid)).setCell ⟨g, 2, none⟩ (.bool true)) = W at *
    generalize nid = cid at *
    have hxs : ∀ x : After W, x.now.cell? ⟨w.heap.size, 22, none⟩ = some (.string salt) := fun x => x.keep (cell_of_row W _ 22 _ _ _ HA.out.hc)
    have hx0 : ∀ x : After W, x.now.cell? ⟨w.heap.size, 16, none⟩ = some vw := fun x => x.keep (cell_of_row W _ 16 _ _ _ HA.out.hc)
    have hx1 : ∀ x : After W, x.now.cell? ⟨w.heap.size, 17, none⟩ = some (.int .i64 p.ms) := fun x => x.keep (cell_of_row W _ 17 _ _ _ HA.out.hc)
    have hx2 : ∀ x : After W, x.now.cell? ⟨w.heap.size, 18, none⟩ = some (.int .i64 p.num) := fun x => x.keep (cell_of_row W _ 18 _ _ _ HA.out.hc)
    have hx3 : ∀ x : After W, x.now.cell? ⟨w.heap.size, 19, none⟩ = some (.int .i64 p.den) := fun x => x.keep (cell_of_row W _ 19 _ _ _ HA.out.hc)
    have hx4 : ∀ x : After W, x.now.cell? ⟨w.heap.size, 20, none⟩ = some (.int .i64 p.hold) := fun x => x.keep (cell_of_row W _ 20 _ _ _ HA.out.hc)
    have hx5 : ∀ x : After W, x.now.cell? ⟨w.heap.size, 21, none⟩ = some (.int .i64 p.win) := fun x => x.keep (cell_of_row W _ 21 _ _ _ HA.out.hc)
    have hy0 : ∀ x : After W, x.now.cell? ⟨w.heap.size + 1, 0, none⟩ = some (.int .i64 st) := fun x => x.keep (cell_of_row W _ 0 _ _ _ HA.out.hr)
    have hy1 : ∀ x : After W, x.now.cell? ⟨w.heap.size + 1, 1, none⟩ = some (.int .i64 sg) := fun x => x.keep (cell_of_row W _ 1 _ _ _ HA.out.hr)
    have hy2 : ∀ x : After W, x.now.cell? ⟨w.heap.size + 1, 2, none⟩ = some (.int .i64 he) := fun x => x.keep (cell_of_row W _ 2 _ _ _ HA.out.hr)
    have hy3 : ∀ x : After W, x.now.cell? ⟨w.heap.size + 1, 3, none⟩ = some (.int .i64 t) := fun x => x.keep (cell_of_row W _ 3 _ _ _ HA.out.hr)
    have hy4 : ∀ x : After W, x.now.cell? ⟨w.heap.size + 1, 4, none⟩ = some (.int .i64 er) := fun x => x.keep (cell_of_row W _ 4 _ _ _ HA.out.hr)
    have hy5 : ∀ x : After W, x.now.cell? ⟨w.heap.size + 1, 5, none⟩ = some (.int .i64 ag) := fun x => x.keep (cell_of_row W _ 5 _ _ _ HA.out.hr)
    have hz1 : ∀ x : After W, x.now.cell? ⟨g, 1, none⟩ = some (.string cid) := fun x => x.keep (cell_of_row W _ 1 _ _ _ HA.out.hg)
    have hP : ∀ x : After W, PlV x.now (.agg #[vw, .int .i64 p.ms, .int .i64 p.num, .int .i64 p.den, .int .i64 p.hold, .int .i64 p.win]) p := fun x => ⟨vw, rfl, (HP.out.below HA.out.hb).below x.h⟩
    have CW := Lib.hid (fun (x : After W) => refRollW_calls p _ st sg he t er ag _ (hP x))
    have CB := Lib.hid (fun (x : After W) => refBucket_calls salt cid x.now hsalt hidz)
    refine wp_region_below (by kernel_rfl) (by kernel_rfl) ?_
    repeat (go_big_quiet_step ((first
      | (go_at_call 31; exact After.call (CB.out _))
      | (go_at_call 32; exact After.call (CW.out _))
      | (go_at_call 30; exact After.same (refCanary_calls _ _ _)))))
    refine wpQuiet_nil ?_
    rintro w9 ⟨x, rfl⟩
    have HA := Lib.hid (ChA.mk (row_below HA.out.hc x.h) (row_below HA.out.hr x.h) (row_below HA.out.h0 x.h) (row_below HA.out.hg x.h) (Below.self_trans HA.out.hb x.h) HA.out.hl)
    clear hxs hx0 hx1 hx2 hx3 hx4 hx5 hy0 hy1 hy2 hy3 hy4 hy5 hz1 hP CW CB
    generalize x.now = W9 at *
    obtain ⟨⟨k0, k1, k2⟩, ⟨l0, l1, l2⟩, -⟩ := row3 HA.out.hg
    obtain ⟨⟨d0, d1, d2⟩, ⟨e0, e1, e2⟩, -⟩ := row3 HA.out.h0
    cases hcb : canB (bucketI salt cid) (rollW st sg p) with
    | false =>
      have HQ := Lib.hid hcb
      clear hcb
      go_wp2
      exact fin3g id HA.out.h0 (fun w2 c0 c1 c2 => by simp [results, Tryz.results10, go_sem, c0, c1, c2]) rfl (fun w5 hgr => ⟨by rw [HV.out, HID.out.1, HID.out.2, classI, HQ.out]; rfl, below_src HA.out.hb hgr (by omega)⟩)
    | true =>
      have HQ := Lib.hid hcb
      clear hcb
      go_upto_region 7 with fail
      have hl := HA.out.hl
      have hgg : (W9.setCell ⟨g, 0, none⟩ (.int .i64 5)).heap[g]? = some (.cells #[.int .i64 5, .string cid, .bool true] 40) := (heap_setCell_same W9 g 0 _ _ _ HA.out.hg).trans (by simp)
      have hgr0 := grown_set W9 g 0 (.int .i64 5)
      have h00 := Lib.hid ((hgr0.block _ (Array.getElem?_eq_some_iff.1 HA.out.h0).1 (by intro e; have := Option.some.inj e; omega)).trans HA.out.h0)
      have HB9 := Lib.hid (HA.out.hb.setCell (p := ⟨g, 0, none⟩) (by simp only; omega) (.int .i64 5))
      clear k0 k1 k2 l0 l1 l2 d0 d1 d2 e0 e1 e2 hgr0
      generalize W9.setCell ⟨g, 0, none⟩ (.int .i64 5) = W8 at *
      obtain ⟨⟨k0, k1, k2⟩, ⟨l0, l1, l2⟩, -⟩ := row3 hgg
      obtain ⟨⟨d0, d1, d2⟩, ⟨e0, e1, e2⟩, -⟩ := row3 h00.out
      clear hgg
      go_wp2
      exact fin3g id h00.out (fun w2 c0 c1 c2 => by simp [results, Tryz.results10, go_sem, c0, c1, c2]) rfl (fun w5 hgr => ⟨by rw [HV.out, HID.out.1, HID.out.2, classI, HQ.out]; rfl, below_src HB9.out hgr (by omega)⟩)
  | some f =>
    have hfz : f.val.size ≤ maxLen := by have := hvs f rfl; simp [maxLen]; omega
    unfold findV
    simp only
    go_wp2_with fail
    refine (same_below (refID_calls f.val _ hfz)).mono ?_
    rintro e w3 ⟨rfl, HI2⟩
    have HI := And.intro True.intro HI2
    clear HI2
    have HA := Lib.hid (HAA.out f.val false)
    generalize hg : w1.heap.size = g at *
    have HA := Lib.hid (ChA.mk (row_below HA.out.hc HI.2) (row_below HA.out.hr HI.2) (row_below HA.out.h0 HI.2) (row_below HA.out.hg HI.2) (Below.self_trans HA.out.hb HI.2) HA.out.hl)
    cases hib : idB f.val with
    | true =>
      have HID : Hid (chosenI (some f) nid = f.val ∧ newI (some f) = false) := Lib.hid ⟨by unfold chosenI; simp [hib], by unfold newI; simp [hib]⟩
      obtain ⟨⟨k0, k1, k2⟩, ⟨l0, l1, l2⟩, -⟩ := row3 HA.out.hg
      have hidz := hfz
      clear hvs hns HAA HI hfz CN hgz HB1
      go_upto_region 5 with fail
      clear k0 k1 k2 l0 l1 l2
      generalize f.val = cid at *
      generalize w3 = W at *
      have hxs : ∀ x : After W, x.now.cell? ⟨w.heap.size, 22, none⟩ = some (.string salt) := fun x => x.keep (cell_of_row W _ 22 _ _ _ HA.out.hc)
      have hx0 : ∀ x : After W, x.now.cell? ⟨w.heap.size, 16, none⟩ = some vw := fun x => x.keep (cell_of_row W _ 16 _ _ _ HA.out.hc)
      have hx1 : ∀ x : After W, x.now.cell? ⟨w.heap.size, 17, none⟩ = some (.int .i64 p.ms) := fun x => x.keep (cell_of_row W _ 17 _ _ _ HA.out.hc)
      have hx2 : ∀ x : After W, x.now.cell? ⟨w.heap.size, 18, none⟩ = some (.int .i64 p.num) := fun x => x.keep (cell_of_row W _ 18 _ _ _ HA.out.hc)
      have hx3 : ∀ x : After W, x.now.cell? ⟨w.heap.size, 19, none⟩ = some (.int .i64 p.den) := fun x => x.keep (cell_of_row W _ 19 _ _ _ HA.out.hc)
      have hx4 : ∀ x : After W, x.now.cell? ⟨w.heap.size, 20, none⟩ = some (.int .i64 p.hold) := fun x => x.keep (cell_of_row W _ 20 _ _ _ HA.out.hc)
      have hx5 : ∀ x : After W, x.now.cell? ⟨w.heap.size, 21, none⟩ = some (.int .i64 p.win) := fun x => x.keep (cell_of_row W _ 21 _ _ _ HA.out.hc)
      have hy0 : ∀ x : After W, x.now.cell? ⟨w.heap.size + 1, 0, none⟩ = some (.int .i64 st) := fun x => x.keep (cell_of_row W _ 0 _ _ _ HA.out.hr)
      have hy1 : ∀ x : After W, x.now.cell? ⟨w.heap.size + 1, 1, none⟩ = some (.int .i64 sg) := fun x => x.keep (cell_of_row W _ 1 _ _ _ HA.out.hr)
      have hy2 : ∀ x : After W, x.now.cell? ⟨w.heap.size + 1, 2, none⟩ = some (.int .i64 he) := fun x => x.keep (cell_of_row W _ 2 _ _ _ HA.out.hr)
      have hy3 : ∀ x : After W, x.now.cell? ⟨w.heap.size + 1, 3, none⟩ = some (.int .i64 t) := fun x => x.keep (cell_of_row W _ 3 _ _ _ HA.out.hr)
      have hy4 : ∀ x : After W, x.now.cell? ⟨w.heap.size + 1, 4, none⟩ = some (.int .i64 er) := fun x => x.keep (cell_of_row W _ 4 _ _ _ HA.out.hr)
      have hy5 : ∀ x : After W, x.now.cell? ⟨w.heap.size + 1, 5, none⟩ = some (.int .i64 ag) := fun x => x.keep (cell_of_row W _ 5 _ _ _ HA.out.hr)
      have hz1 : ∀ x : After W, x.now.cell? ⟨g, 1, none⟩ = some (.string cid) := fun x => x.keep (cell_of_row W _ 1 _ _ _ HA.out.hg)
      have hP : ∀ x : After W, PlV x.now (.agg #[vw, .int .i64 p.ms, .int .i64 p.num, .int .i64 p.den, .int .i64 p.hold, .int .i64 p.win]) p := fun x => ⟨vw, rfl, (HP.out.below HA.out.hb).below x.h⟩
      have CW := Lib.hid (fun (x : After W) => refRollW_calls p _ st sg he t er ag _ (hP x))
      have CB := Lib.hid (fun (x : After W) => refBucket_calls salt cid x.now hsalt hidz)
      refine wp_region_below (by kernel_rfl) (by kernel_rfl) ?_
      repeat (go_big_quiet_step ((first
        | (go_at_call 31; exact After.call (CB.out _))
        | (go_at_call 32; exact After.call (CW.out _))
        | (go_at_call 30; exact After.same (refCanary_calls _ _ _)))))
      refine wpQuiet_nil ?_
      rintro w9 ⟨x, rfl⟩
      have HA := Lib.hid (ChA.mk (row_below HA.out.hc x.h) (row_below HA.out.hr x.h) (row_below HA.out.h0 x.h) (row_below HA.out.hg x.h) (Below.self_trans HA.out.hb x.h) HA.out.hl)
      clear hxs hx0 hx1 hx2 hx3 hx4 hx5 hy0 hy1 hy2 hy3 hy4 hy5 hz1 hP CW CB
      generalize x.now = W9 at *
      obtain ⟨⟨k0, k1, k2⟩, ⟨l0, l1, l2⟩, -⟩ := row3 HA.out.hg
      obtain ⟨⟨d0, d1, d2⟩, ⟨e0, e1, e2⟩, -⟩ := row3 HA.out.h0
      cases hcb : canB (bucketI salt cid) (rollW st sg p) with
      | false =>
        have HQ := Lib.hid hcb
        clear hcb
        go_wp2
        exact fin3g id HA.out.h0 (fun w2 c0 c1 c2 => by simp [results, Tryz.results10, go_sem, c0, c1, c2]) rfl (fun w5 hgr => ⟨by rw [HV.out, HID.out.1, HID.out.2, classI, HQ.out]; rfl, below_src HA.out.hb hgr (by omega)⟩)
      | true =>
        have HQ := Lib.hid hcb
        clear hcb
        go_upto_region 7 with fail
        have hl := HA.out.hl
        have hgg : (W9.setCell ⟨g, 0, none⟩ (.int .i64 5)).heap[g]? = some (.cells #[.int .i64 5, .string cid, .bool false] 40) := (heap_setCell_same W9 g 0 _ _ _ HA.out.hg).trans (by simp)
        have hgr0 := grown_set W9 g 0 (.int .i64 5)
        have h00 := Lib.hid ((hgr0.block _ (Array.getElem?_eq_some_iff.1 HA.out.h0).1 (by intro e; have := Option.some.inj e; omega)).trans HA.out.h0)
        have HB9 := Lib.hid (HA.out.hb.setCell (p := ⟨g, 0, none⟩) (by simp only; omega) (.int .i64 5))
        clear k0 k1 k2 l0 l1 l2 d0 d1 d2 e0 e1 e2 hgr0
        generalize W9.setCell ⟨g, 0, none⟩ (.int .i64 5) = W8 at *
        obtain ⟨⟨k0, k1, k2⟩, ⟨l0, l1, l2⟩, -⟩ := row3 hgg
        obtain ⟨⟨d0, d1, d2⟩, ⟨e0, e1, e2⟩, -⟩ := row3 h00.out
        clear hgg
        go_wp2
        exact fin3g id h00.out (fun w2 c0 c1 c2 => by simp [results, Tryz.results10, go_sem, c0, c1, c2]) rfl (fun w5 hgr => ⟨by rw [HV.out, HID.out.1, HID.out.2, classI, HQ.out]; rfl, below_src HB9.out hgr (by omega)⟩)
    | false =>
      obtain ⟨⟨k0, k1, k2⟩, ⟨l0, l1, l2⟩, -⟩ := row3 HA.out.hg
      go_wp2_with fail
      refine (CN.out _ trivial).mono ?_
      rintro e w2 ⟨rfl, hb2⟩
      have hgg := row_below HA.out.hg hb2
      have HID : Hid (chosenI (some f) nid = nid ∧ newI (some f) = true) := Lib.hid ⟨by unfold chosenI; simp [hib], by unfold newI; simp [hib]⟩
      have hidz : nid.size ≤ maxLen := by rw [hns]; decide
      have hlg := HA.out.hl
      have hbw := Below.self_trans HA.out.hb hb2
      obtain ⟨⟨k0, k1, k2⟩, ⟨l0, l1, l2⟩, -⟩ := row3 hgg
      have q1 : (w2.setCell ⟨g, 1, none⟩ (.string nid)).heap[g]? = some (.cells #[.int .i64 4, .string nid, .bool false] 40) := (heap_setCell_same w2 g 1 _ _ _ hgg).trans (by simp)
      have q2 : ((w2.setCell ⟨g, 1, none⟩ (.string nid)).setCell ⟨g, 2, none⟩ (.bool true)).heap[g]? = some (.cells #[.int .i64 4, .string nid, .bool true] 40) := (heap_setCell_same _ g 2 _ _ _ q1).trans (by simp)
      have hgr := grownBy_trans (grown_set w2 g 1 (.string nid)) (grown_set _ g 2 (.bool true))
      have HA2 : ChA w ((w2.setCell ⟨g, 1, none⟩ (.string nid)).setCell ⟨g, 2, none⟩ (.bool true)) g (.cells #[.int .i64 a0, .int .i64 a1, .int .i64 a2, .int .i64 a3, .int .i64 a4, .int .i64 a5, .int .i64 a6, .int .i64 a7, .int .i64 a8, .int .i64 a9, .int .i64 a10, .int .i64 a11, .int .i64 a12, .int .i64 a13, .int .i64 a14, .int .i64 a15, vw, .int .i64 p.ms, .int .i64 p.num, .int .i64 p.den, .int .i64 p.hold, .int .i64 p.win, .string salt, .string cookie, .bool mir, vig] 28) (.cells #[.int .i64 st, .int .i64 sg, .int .i64 he, .int .i64 t, .int .i64 er, .int .i64 ag] 32) nid true :=
        ⟨(hgr.block _ (Array.getElem?_eq_some_iff.1 (row_below HA.out.hc hb2)).1 (by intro e; have := Option.some.inj e; omega)).trans (row_below HA.out.hc hb2),
         (hgr.block _ (Array.getElem?_eq_some_iff.1 (row_below HA.out.hr hb2)).1 (by intro e; have := Option.some.inj e; omega)).trans (row_below HA.out.hr hb2),
         (hgr.block _ (Array.getElem?_eq_some_iff.1 (row_below HA.out.h0 hb2)).1 (by intro e; have := Option.some.inj e; omega)).trans (row_below HA.out.h0 hb2),
         q2, (hbw.setCell (p := ⟨g, 1, none⟩) (by simp only; omega) _).setCell (p := ⟨g, 2, none⟩) (by simp only; omega) _, hlg⟩
      have HA := Lib.hid HA2
      clear HA2 q1 q2 hgr hgg hbw hb2 hvs hns HAA hgz HB1 CN
      go_upto_region 5 with fail
      clear k0 k1 k2 l0 l1 l2
      generalize ((w2.setCell ⟨g, 1, none⟩ (.string nid)).setCell ⟨g, 2, none⟩ (.bool true)) = W at *
      generalize nid = cid at *
      have hxs : ∀ x : After W, x.now.cell? ⟨w.heap.size, 22, none⟩ = some (.string salt) := fun x => x.keep (cell_of_row W _ 22 _ _ _ HA.out.hc)
      have hx0 : ∀ x : After W, x.now.cell? ⟨w.heap.size, 16, none⟩ = some vw := fun x => x.keep (cell_of_row W _ 16 _ _ _ HA.out.hc)
      have hx1 : ∀ x : After W, x.now.cell? ⟨w.heap.size, 17, none⟩ = some (.int .i64 p.ms) := fun x => x.keep (cell_of_row W _ 17 _ _ _ HA.out.hc)
      have hx2 : ∀ x : After W, x.now.cell? ⟨w.heap.size, 18, none⟩ = some (.int .i64 p.num) := fun x => x.keep (cell_of_row W _ 18 _ _ _ HA.out.hc)
      have hx3 : ∀ x : After W, x.now.cell? ⟨w.heap.size, 19, none⟩ = some (.int .i64 p.den) := fun x => x.keep (cell_of_row W _ 19 _ _ _ HA.out.hc)
      have hx4 : ∀ x : After W, x.now.cell? ⟨w.heap.size, 20, none⟩ = some (.int .i64 p.hold) := fun x => x.keep (cell_of_row W _ 20 _ _ _ HA.out.hc)
      have hx5 : ∀ x : After W, x.now.cell? ⟨w.heap.size, 21, none⟩ = some (.int .i64 p.win) := fun x => x.keep (cell_of_row W _ 21 _ _ _ HA.out.hc)
      have hy0 : ∀ x : After W, x.now.cell? ⟨w.heap.size + 1, 0, none⟩ = some (.int .i64 st) := fun x => x.keep (cell_of_row W _ 0 _ _ _ HA.out.hr)
      have hy1 : ∀ x : After W, x.now.cell? ⟨w.heap.size + 1, 1, none⟩ = some (.int .i64 sg) := fun x => x.keep (cell_of_row W _ 1 _ _ _ HA.out.hr)
      have hy2 : ∀ x : After W, x.now.cell? ⟨w.heap.size + 1, 2, none⟩ = some (.int .i64 he) := fun x => x.keep (cell_of_row W _ 2 _ _ _ HA.out.hr)
      have hy3 : ∀ x : After W, x.now.cell? ⟨w.heap.size + 1, 3, none⟩ = some (.int .i64 t) := fun x => x.keep (cell_of_row W _ 3 _ _ _ HA.out.hr)
      have hy4 : ∀ x : After W, x.now.cell? ⟨w.heap.size + 1, 4, none⟩ = some (.int .i64 er) := fun x => x.keep (cell_of_row W _ 4 _ _ _ HA.out.hr)
      have hy5 : ∀ x : After W, x.now.cell? ⟨w.heap.size + 1, 5, none⟩ = some (.int .i64 ag) := fun x => x.keep (cell_of_row W _ 5 _ _ _ HA.out.hr)
      have hz1 : ∀ x : After W, x.now.cell? ⟨g, 1, none⟩ = some (.string cid) := fun x => x.keep (cell_of_row W _ 1 _ _ _ HA.out.hg)
      have hP : ∀ x : After W, PlV x.now (.agg #[vw, .int .i64 p.ms, .int .i64 p.num, .int .i64 p.den, .int .i64 p.hold, .int .i64 p.win]) p := fun x => ⟨vw, rfl, (HP.out.below HA.out.hb).below x.h⟩
      have CW := Lib.hid (fun (x : After W) => refRollW_calls p _ st sg he t er ag _ (hP x))
      have CB := Lib.hid (fun (x : After W) => refBucket_calls salt cid x.now hsalt hidz)
      refine wp_region_below (by kernel_rfl) (by kernel_rfl) ?_
      repeat (go_big_quiet_step ((first
        | (go_at_call 31; exact After.call (CB.out _))
        | (go_at_call 32; exact After.call (CW.out _))
        | (go_at_call 30; exact After.same (refCanary_calls _ _ _)))))
      refine wpQuiet_nil ?_
      rintro w9 ⟨x, rfl⟩
      have HA := Lib.hid (ChA.mk (row_below HA.out.hc x.h) (row_below HA.out.hr x.h) (row_below HA.out.h0 x.h) (row_below HA.out.hg x.h) (Below.self_trans HA.out.hb x.h) HA.out.hl)
      clear hxs hx0 hx1 hx2 hx3 hx4 hx5 hy0 hy1 hy2 hy3 hy4 hy5 hz1 hP CW CB
      generalize x.now = W9 at *
      obtain ⟨⟨k0, k1, k2⟩, ⟨l0, l1, l2⟩, -⟩ := row3 HA.out.hg
      obtain ⟨⟨d0, d1, d2⟩, ⟨e0, e1, e2⟩, -⟩ := row3 HA.out.h0
      cases hcb : canB (bucketI salt cid) (rollW st sg p) with
      | false =>
        have HQ := Lib.hid hcb
        clear hcb
        go_wp2
        exact fin3g id HA.out.h0 (fun w2 c0 c1 c2 => by simp [results, Tryz.results10, go_sem, c0, c1, c2]) rfl (fun w5 hgr => ⟨by rw [HV.out, HID.out.1, HID.out.2, classI, HQ.out]; rfl, below_src HA.out.hb hgr (by omega)⟩)
      | true =>
        have HQ := Lib.hid hcb
        clear hcb
        go_upto_region 7 with fail
        have hl := HA.out.hl
        have hgg : (W9.setCell ⟨g, 0, none⟩ (.int .i64 5)).heap[g]? = some (.cells #[.int .i64 5, .string cid, .bool true] 40) := (heap_setCell_same W9 g 0 _ _ _ HA.out.hg).trans (by simp)
        have hgr0 := grown_set W9 g 0 (.int .i64 5)
        have h00 := Lib.hid ((hgr0.block _ (Array.getElem?_eq_some_iff.1 HA.out.h0).1 (by intro e; have := Option.some.inj e; omega)).trans HA.out.h0)
        have HB9 := Lib.hid (HA.out.hb.setCell (p := ⟨g, 0, none⟩) (by simp only; omega) (.int .i64 5))
        clear k0 k1 k2 l0 l1 l2 d0 d1 d2 e0 e1 e2 hgr0
        generalize W9.setCell ⟨g, 0, none⟩ (.int .i64 5) = W8 at *
        obtain ⟨⟨k0, k1, k2⟩, ⟨l0, l1, l2⟩, -⟩ := row3 hgg
        obtain ⟨⟨d0, d1, d2⟩, ⟨e0, e1, e2⟩, -⟩ := row3 h00.out
        clear hgg
        go_wp2
        exact fin3g id h00.out (fun w2 c0 c1 c2 => by simp [results, Tryz.results10, go_sem, c0, c1, c2]) rfl (fun w5 hgr => ⟨by rw [HV.out, HID.out.1, HID.out.2, classI, HQ.out]; rfl, below_src HB9.out hgr (by omega)⟩)
end Go.Proofs.YtfmokccoilgpmaaGreatDoor
