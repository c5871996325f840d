/- canarymade.Source.Config. -/
import Derived.Test.YtfmokccoilgpmaaGreatDoorSPlan
import Derived.Test.YtfmokccoilgpmaaGreatDoorChoose
import Derived.Test.YtfmokccoilgpmaaGreatDoorRowS
import Derived.Deep.DeepCutAuto
import Derived.Deep.CutBlock
namespace Go.Proofs.YtfmokccoilgpmaaGreatDoor
open Go.RowKit Go.Own
set_option linter.unusedVariables false
set_option maxHeartbeats 4000000
set_option maxRecDepth 100000

def cohortS : ByteArray := ⟨#[99, 111, 104, 111, 114, 116]⟩
def zconf : Obj := .cells #[.int .i64 0, .int .i64 0, .int .i64 0, .int .i64 0, .int .i64 0, .int .i64 0, .int .i64 0, .int .i64 0, .int .i64 0, .int .i64 0, .int .i64 0, .int .i64 0, .int .i64 0, .int .i64 0, .int .i64 0, .int .i64 0, .slice none 0 0, .int .i64 0, .int .i64 0, .int .i64 0, .int .i64 0, .int .i64 0, .string ⟨#[]⟩, .string ⟨#[]⟩, .bool false, .slice none 0 0] 28
def confRow (a0 a1 a2 a3 a4 a5 a6 a7 a8 a9 a10 a11 a12 a13 a14 a15 : Int) (vw : Value) (P : Pl) (salt : ByteArray) (mir : Bool) (vig : Value) : Obj := .cells #[.int .i64 a0, .int .i64 a1, .int .i64 a2, .int .i64 a3, .int .i64 a4, .int .i64 a5, .int .i64 a6, .int .i64 a7, .int .i64 a8, .int .i64 a9, .int .i64 a10, .int .i64 a11, .int .i64 a12, .int .i64 a13, .int .i64 a14, .int .i64 a15, vw, .int .i64 P.ms, .int .i64 P.num, .int .i64 P.den, .int .i64 P.hold, .int .i64 P.win, .string salt, .string ⟨#[99, 111, 104, 111, 114, 116]⟩, .bool mir, vig] 28
def confCells (a0 a1 a2 a3 a4 a5 a6 a7 a8 a9 a10 a11 a12 a13 a14 a15 : Int) (vw : Value) (P : Pl) (salt : ByteArray) (mir : Bool) (vig : Value) : List Value := [.int .i64 a0, .int .i64 a1, .int .i64 a2, .int .i64 a3, .int .i64 a4, .int .i64 a5, .int .i64 a6, .int .i64 a7, .int .i64 a8, .int .i64 a9, .int .i64 a10, .int .i64 a11, .int .i64 a12, .int .i64 a13, .int .i64 a14, .int .i64 a15, vw, .int .i64 P.ms, .int .i64 P.num, .int .i64 P.den, .int .i64 P.hold, .int .i64 P.win, .string salt, .string ⟨#[99, 111, 104, 111, 114, 116]⟩, .bool mir, vig]
theorem confCells_one (a0 a1 a2 a3 a4 a5 a6 a7 a8 a9 a10 a11 a12 a13 a14 a15 : Int) (vw : Value) (P : Pl) (salt : ByteArray) (mir : Bool) (vig : Value) (h1 : vw.oneCell' = true) (h2 : vig.oneCell' = true) : ((confCells a0 a1 a2 a3 a4 a5 a6 a7 a8 a9 a10 a11 a12 a13 a14 a15 vw P salt mir vig).toArray).all (·.oneCell') = true := by
  refine all_one ?_
  intro v hv
  simp only [confCells, List.mem_cons, List.not_mem_nil, or_false] at hv
  rcases hv with rfl | rfl | rfl | rfl | rfl | rfl | rfl | rfl | rfl | rfl | rfl | rfl | rfl | rfl | rfl | rfl | rfl | rfl | rfl | rfl | rfl | rfl | rfl | rfl | rfl | rfl <;> first | rfl | assumption
/-- where Config stands: g is the configuration's block -/
structure CfA (w W : World) (p g : Nat) (l : List Int) (a0 a1 a2 a3 a4 a5 a6 a7 a8 a9 a10 a11 a12 a13 a14 a15 : Int) (vw : Value) (P : Pl) (salt : ByteArray) (mir : Bool) (vig : Value) : Prop where
  row : W.heap[g]? = some (confRow a0 a1 a2 a3 a4 a5 a6 a7 a8 a9 a10 a11 a12 a13 a14 a15 vw P salt mir vig)
  res : W.heap[w.heap.size]? = some zconf
  own : W.ownsRow (w.heap.size + 1) 3 1 vw P.ws.length (intsV P.ws)
  in64 : ∀ x ∈ P.ws, In64 x
  gr : w.grownBy W (some p)
  src : Src W p l
  lo : w.heap.size < g
  hi : ∀ k, vw.ownBlock = some k → k < g
theorem CfA.next {w W W' : World} {p g : Nat} {l : List Int} {a0 a1 a2 a3 a4 a5 a6 a7 a8 a9 a10 a11 a12 a13 a14 a15 : Int} {vw : Value} {P : Pl} {salt : ByteArray} {mir : Bool} {vig : Value} (h : CfA w W p g l a0 a1 a2 a3 a4 a5 a6 a7 a8 a9 a10 a11 a12 a13 a14 a15 vw P salt mir vig) (hp : p < w.heap.size) (hgr : W.grownBy W' (some p)) (hs : Src W' p l) : CfA w W' p g l a0 a1 a2 a3 a4 a5 a6 a7 a8 a9 a10 a11 a12 a13 a14 a15 vw P salt mir vig :=
  ⟨grown_at hgr h.row (by have := h.lo; omega), grown_at hgr h.res (by omega), own_src h.own hgr (by omega), h.in64, grownBy_trans h.gr hgr, hs, h.lo, h.hi⟩
theorem CfA.set3 {w W : World} {p g : Nat} {l : List Int} {a0 a1 a2 a3 a4 a5 a6 a7 a8 a9 a10 a11 a12 a13 a14 a15 : Int} {vw : Value} {P : Pl} {salt : ByteArray} {mir : Bool} {vig : Value} (h : CfA w W p g l a0 a1 a2 a3 a4 a5 a6 a7 a8 a9 a10 a11 a12 a13 a14 a15 vw P salt mir vig) (hp : p < w.heap.size) (x : Int) : CfA w (W.setCell ⟨g, 3, none⟩ (.int .i64 x)) p g l a0 a1 a2 x a4 a5 a6 a7 a8 a9 a10 a11 a12 a13 a14 a15 vw P salt mir vig := by
  have hgs := grown_set W g 3 (.int .i64 x)
  have hlo := h.lo
  refine ⟨(heap_setCell_same W g 3 _ _ _ h.row).trans (by simp [confRow]), (hgs.block _ (Array.getElem?_eq_some_iff.1 h.res).1 (by intro e; have := Option.some.inj e; omega)).trans h.res, h.own.kept hgs ?_, h.in64, grownBy_own h.gr hgs (fun k hk => by have := Option.some.inj hk; omega), src_own h.src hgs (fun k hk => by have := Option.some.inj hk; omega), h.lo, h.hi⟩
  cases e : vw.ownBlock with
  | none => exact Or.inl rfl
  | some k => right; intro e2; have := h.hi k e; have := Option.some.inj e2; omega
theorem CfA.setI {w W : World} {p g : Nat} {l : List Int} {a0 a1 a2 a3 a4 a5 a6 a7 a8 a9 a10 a11 a12 a13 a14 a15 : Int} {vw : Value} {P : Pl} {salt : ByteArray} {mir : Bool} {vig : Value} (h : CfA w W p g l a0 a1 a2 a3 a4 a5 a6 a7 a8 a9 a10 a11 a12 a13 a14 a15 vw P salt mir vig) (hp : p < w.heap.size) (v : Value) : CfA w (W.setCell ⟨g, 25, none⟩ v) p g l a0 a1 a2 a3 a4 a5 a6 a7 a8 a9 a10 a11 a12 a13 a14 a15 vw P salt mir v := by
  have hgs := grown_set W g 25 v
  have hlo := h.lo
  refine ⟨(heap_setCell_same W g 25 _ _ _ h.row).trans (by simp [confRow]), (hgs.block _ (Array.getElem?_eq_some_iff.1 h.res).1 (by intro e; have := Option.some.inj e; omega)).trans h.res, h.own.kept hgs ?_, h.in64, grownBy_own h.gr hgs (fun k hk => by have := Option.some.inj hk; omega), src_own h.src hgs (fun k hk => by have := Option.some.inj hk; omega), h.lo, h.hi⟩
  cases e : vw.ownBlock with
  | none => exact Or.inl rfl
  | some k => right; intro e2; have := h.hi k e; have := Option.some.inj e2; omega
theorem CfA.below {w W W' : World} {p g : Nat} {l : List Int} {a0 a1 a2 a3 a4 a5 a6 a7 a8 a9 a10 a11 a12 a13 a14 a15 : Int} {vw : Value} {P : Pl} {salt : ByteArray} {mir : Bool} {vig : Value} (h : CfA w W p g l a0 a1 a2 a3 a4 a5 a6 a7 a8 a9 a10 a11 a12 a13 a14 a15 vw P salt mir vig) (hb : Below W.heap.size W W') : CfA w W' p g l a0 a1 a2 a3 a4 a5 a6 a7 a8 a9 a10 a11 a12 a13 a14 a15 vw P salt mir vig :=
  ⟨row_below h.row hb, row_below h.res hb, own_below h.own hb, h.in64, grownBy_trans h.gr (grownBy_below hb _), h.src.grown hb, h.lo, h.hi⟩

theorem sconf_calls (p : Nat) (l : List Int) (w : World) (h : Src w p l) :
    Calls Tryz.prog 20 #[.pointer (some ⟨p, 0, none⟩)] w fun e w' => (∃ (a0 a1 a2 a3 a4 a5 a6 a7 a8 a9 a10 a11 a12 a13 a14 a15 : Int) (vw : Value) (P : Pl) (salt : ByteArray) (mir : Bool) (vig : Value), e = .returned (.agg #[.int .i64 a0, .int .i64 a1, .int .i64 a2, .int .i64 a3, .int .i64 a4, .int .i64 a5, .int .i64 a6, .int .i64 a7, .int .i64 a8, .int .i64 a9, .int .i64 a10, .int .i64 a11, .int .i64 a12, .int .i64 a13, .int .i64 a14, .int .i64 a15, vw, .int .i64 P.ms, .int .i64 P.num, .int .i64 P.den, .int .i64 P.hold, .int .i64 P.win, .string salt, .string ⟨#[99, 111, 104, 111, 114, 116]⟩, .bool mir, vig]) ∧ RdI w' vw P.ws ∧ w'.ownsRow w.heap.size 3 1 vw P.ws.length (intsV P.ws) ∧ salt.size ≤ 1 ∧ vig.oneCell' = true) ∧ w.grownBy w' (some p) ∧ Src w' p l := by
  have hlt := h.lt
  have HR0 := Lib.hid (heap_alloc_new w zconf)
  have hgr0 := World.grownBy_alloc w zconf (some p)
  have hs0 := h.grown ((Below.refl _ _).alloc (Nat.le_refl _) zconf)
  have hz0 : w.heap.size + 1 ≤ (w.alloc zconf).heap.size := by simp
  unfold zconf at HR0 hgr0 hs0 hz0
  go_enter Tryz.func20, Tryz.ntmps20
  go_wp2_with fail
  generalize (w.alloc (.cells #[.int .i64 0, .int .i64 0, .int .i64 0, .int .i64 0, .int .i64 0, .int .i64 0, .int .i64 0, .int .i64 0, .int .i64 0, .int .i64 0, .int .i64 0, .int .i64 0, .int .i64 0, .int .i64 0, .int .i64 0, .int .i64 0, .slice none 0 0, .int .i64 0, .int .i64 0, .int .i64 0, .int .i64 0, .int .i64 0, .string ⟨#[]⟩, .string ⟨#[]⟩, .bool false, .slice none 0 0] 28)) = w0 at *
  refine (next_calls p l 200 _ hs0 (by omega) (by omega)).mono ?_
  rintro e w1 ⟨⟨r0, rfl, m0, n0⟩, hg, hs1⟩
  have HR1 := Lib.hid (grown_at hg HR0.out (by omega))
  have hgr1 := grownBy_trans hgr0 hg
  have hz1 := Nat.le_trans hz0 hg.size
  clear hg hgr0 hs0 HR0 hz0
  go_wp2_with fail
  refine (next_calls p l 50 _ hs1 (by omega) (by omega)).mono ?_
  rintro e w2 ⟨⟨r1, rfl, m1, n1⟩, hg, hs2⟩
  have HR2 := Lib.hid (grown_at hg HR1.out (by omega))
  have hgr2 := grownBy_trans hgr1 hg
  have hz2 := Nat.le_trans hz1 hg.size
  clear hg hgr1 hs1 HR1 hz1
  go_wp2_with fail
  refine (next_calls p l 80 _ hs2 (by omega) (by omega)).mono ?_
  rintro e w3 ⟨⟨r2, rfl, m2, n2⟩, hg, hs3⟩
  have HR3 := Lib.hid (grown_at hg HR2.out (by omega))
  have hgr3 := grownBy_trans hgr2 hg
  have hz3 := Nat.le_trans hz2 hg.size
  clear hg hgr2 hs2 HR2 hz2
  go_wp2_with fail
  refine (next_calls p l 100 _ hs3 (by omega) (by omega)).mono ?_
  rintro e w4 ⟨⟨r3, rfl, m3, n3⟩, hg, hs4⟩
  have HR4 := Lib.hid (grown_at hg HR3.out (by omega))
  have hgr4 := grownBy_trans hgr3 hg
  have hz4 := Nat.le_trans hz3 hg.size
  clear hg hgr3 hs3 HR3 hz3
  go_wp2_with fail
  refine (next_calls p l 3 _ hs4 (by omega) (by omega)).mono ?_
  rintro e w5 ⟨⟨r4, rfl, m4, n4⟩, hg, hs5⟩
  have HR5 := Lib.hid (grown_at hg HR4.out (by omega))
  have hgr5 := grownBy_trans hgr4 hg
  have hz5 := Nat.le_trans hz4 hg.size
  clear hg hgr4 hs4 HR4 hz4
  go_wp2_with fail
  refine (next_calls p l 2 _ hs5 (by omega) (by omega)).mono ?_
  rintro e w6 ⟨⟨r5, rfl, m5, n5⟩, hg, hs6⟩
  have HR6 := Lib.hid (grown_at hg HR5.out (by omega))
  have hgr6 := grownBy_trans hgr5 hg
  have hz6 := Nat.le_trans hz5 hg.size
  clear hg hgr5 hs5 HR5 hz5
  go_wp2_with fail
  refine (next_calls p l 2 _ hs6 (by omega) (by omega)).mono ?_
  rintro e w7 ⟨⟨r6, rfl, m6, n6⟩, hg, hs7⟩
  have HR7 := Lib.hid (grown_at hg HR6.out (by omega))
  have hgr7 := grownBy_trans hgr6 hg
  have hz7 := Nat.le_trans hz6 hg.size
  clear hg hgr6 hs6 HR6 hz6
  go_wp2_with fail
  refine (next_calls p l 4 _ hs7 (by omega) (by omega)).mono ?_
  rintro e w8 ⟨⟨r7, rfl, m7, n7⟩, hg, hs8⟩
  have HR8 := Lib.hid (grown_at hg HR7.out (by omega))
  have hgr8 := grownBy_trans hgr7 hg
  have hz8 := Nat.le_trans hz7 hg.size
  clear hg hgr7 hs7 HR7 hz7
  go_wp2_with fail
  refine (next_calls p l 4 _ hs8 (by omega) (by omega)).mono ?_
  rintro e w9 ⟨⟨r8, rfl, m8, n8⟩, hg, hs9⟩
  have HR9 := Lib.hid (grown_at hg HR8.out (by omega))
  have hgr9 := grownBy_trans hgr8 hg
  have hz9 := Nat.le_trans hz8 hg.size
  clear hg hgr8 hs8 HR8 hz8
  go_wp2_with fail
  refine (next_calls p l 4 _ hs9 (by omega) (by omega)).mono ?_
  rintro e w10 ⟨⟨r9, rfl, m9, n9⟩, hg, hs10⟩
  have HR10 := Lib.hid (grown_at hg HR9.out (by omega))
  have hgr10 := grownBy_trans hgr9 hg
  have hz10 := Nat.le_trans hz9 hg.size
  clear hg hgr9 hs9 HR9 hz9
  go_wp2_with fail
  refine (next_calls p l 1200 _ hs10 (by omega) (by omega)).mono ?_
  rintro e w11 ⟨⟨r10, rfl, m10, n10⟩, hg, hs11⟩
  have HR11 := Lib.hid (grown_at hg HR10.out (by omega))
  have hgr11 := grownBy_trans hgr10 hg
  have hz11 := Nat.le_trans hz10 hg.size
  clear hg hgr10 hs10 HR10 hz10
  go_wp2_with fail
  refine (next_calls p l 9 _ hs11 (by omega) (by omega)).mono ?_
  rintro e w12 ⟨⟨r11, rfl, m11, n11⟩, hg, hs12⟩
  have HR12 := Lib.hid (grown_at hg HR11.out (by omega))
  have hgr12 := grownBy_trans hgr11 hg
  have hz12 := Nat.le_trans hz11 hg.size
  clear hg hgr11 hs11 HR11 hz11
  go_wp2_with fail
  refine (next_calls p l 9 _ hs12 (by omega) (by omega)).mono ?_
  rintro e w13 ⟨⟨r12, rfl, m12, n12⟩, hg, hs13⟩
  have HR13 := Lib.hid (grown_at hg HR12.out (by omega))
  have hgr13 := grownBy_trans hgr12 hg
  have hz13 := Nat.le_trans hz12 hg.size
  clear hg hgr12 hs12 HR12 hz12
  go_wp2_with fail
  refine (next_calls p l 9 _ hs13 (by omega) (by omega)).mono ?_
  rintro e w14 ⟨⟨r13, rfl, m13, n13⟩, hg, hs14⟩
  have HR14 := Lib.hid (grown_at hg HR13.out (by omega))
  have hgr14 := grownBy_trans hgr13 hg
  have hz14 := Nat.le_trans hz13 hg.size
  clear hg hgr13 hs13 HR13 hz13
  go_wp2_with fail
  refine (next_calls p l 6 _ hs14 (by omega) (by omega)).mono ?_
  rintro e w15 ⟨⟨r14, rfl, m14, n14⟩, hg, hs15⟩
  have HR15 := Lib.hid (grown_at hg HR14.out (by omega))
  have hgr15 := grownBy_trans hgr14 hg
  have hz15 := Nat.le_trans hz14 hg.size
  clear hg hgr14 hs14 HR14 hz14
  go_wp2_with fail
  refine (splan_calls p l _ hs15).mono ?_
  rintro e w16 ⟨⟨P, vw, rfl, hrd, hown⟩, hg, hs16⟩
  have HR16 := Lib.hid (grown_at hg HR15.out (by omega))
  have hgr16 := grownBy_trans hgr15 hg
  have hown16 := World.ownsRow.mono hown hz15
  obtain ⟨av, cv, rfl, -, -, -⟩ := owned_slice hown
  have hin := hrd.2
  have HIN := Lib.hid hin
  have hz16 := Nat.le_trans hz15 hg.size
  clear hg hgr15 hs15 HR15 hz15 hown hrd hin
  go_wp2_with fail
  refine (oflit_calls [⟨#[]⟩, ⟨#[115]⟩] p l _ _ 2 2 _ hs16 rfl (by simp) rfl (by decide) (by decide)).mono ?_
  rintro e w17 ⟨⟨salt, hsm, rfl⟩, hg, hs17⟩
  have HR17 := Lib.hid (grown_at hg HR16.out (by omega))
  have hgr17 := grownBy_trans hgr16 hg
  have hown17 := own_src hown16 hg (by omega)
  have hz17 := Nat.le_trans hz16 hg.size
  have hsalt : salt.size ≤ 1 := by
    simp only [List.mem_cons, List.not_mem_nil, or_false] at hsm
    rcases hsm with rfl | rfl <;> decide
  clear hg hgr16 hs16 HR16 hz16 hown16 hsm
  go_wp2_with fail
  refine (next_calls p l 5 _ hs17 (by omega) (by omega)).mono ?_
  rintro e w18 ⟨⟨r18, rfl, m18, n18⟩, hg, hs18⟩
  have HR18 := Lib.hid (grown_at hg HR17.out (by omega))
  have hgr18 := grownBy_trans hgr17 hg
  have hown18 := own_src hown17 hg (by omega)
  have hz18 := Nat.le_trans hz17 hg.size
  clear hg hgr17 hs17 HR17 hz17 hown17
  generalize 100 + r0 = x0 at *
  generalize r1 = x1 at *
  generalize r2 = x2 at *
  generalize 1 + r3 = x4 at *
  generalize 1 + r4 = x5 at *
  generalize 1 + r5 = x6 at *
  generalize 1 + r6 = x7 at *
  generalize r7 = x8 at *
  generalize r8 = x9 at *
  generalize r9 = x10 at *
  generalize r10 = x11 at *
  generalize 1 + r11 = x12 at *
  generalize 1 + r12 = x13 at *
  generalize 1 + r13 = x14 at *
  generalize r14 = x15 at *
  have hx := (Below.refl w18.heap.size w18).alloc (Nat.le_refl _) (confRow x0 x1 x2 0 x4 x5 x6 x7 x8 x9 x10 x11 x12 x13 x14 x15 (.slice av P.ws.length cv) P salt (decide (0 < r18)) (.slice none 0 0))
  have HA : CfA w (w18.alloc (confRow x0 x1 x2 0 x4 x5 x6 x7 x8 x9 x10 x11 x12 x13 x14 x15 (.slice av P.ws.length cv) P salt (decide (0 < r18)) (.slice none 0 0))) p w18.heap.size l x0 x1 x2 0 x4 x5 x6 x7 x8 x9 x10 x11 x12 x13 x14 x15 (.slice av P.ws.length cv) P salt (decide (0 < r18)) (.slice none 0 0) :=
    ⟨heap_alloc_new _ _, row_below HR18.out hx, own_below hown18 hx, HIN.out, grownBy_trans hgr18 (World.grownBy_alloc _ _ _), hs18.grown hx, by omega, fun k hk => (hown18.lt k hk).2⟩
  have hone := Lib.hid (confCells_one x0 x1 x2 0 x4 x5 x6 x7 x8 x9 x10 x11 x12 x13 x14 x15 (.slice av P.ws.length cv) P salt (decide (0 < r18)) (.slice none 0 0) rfl rfl)
  have hnew := Lib.hid (heap_alloc_new w18 zconf)
  unfold confCells at hone
  unfold confRow at HA
  unfold zconf at hnew
  have HA := Lib.hid HA
  have hg0 : w.heap.size < w18.heap.size := by omega
  clear hs18 hgr18 HR18 hz18 hown18 hx HIN m0 n0 m1 n1 m2 n2 m3 n3 m4 n4 m5 n5 m6 n6 m7 n7 m8 n8 m9 n9 m10 n10 m11 n11 m12 n12 m13 n13 m14 n14 m18 n18
  go_upto_region 2 with (refine wpList_store_row rfl 28 (.tmp 3) (.tmp 50) rfl w18.heap.size _ rfl rfl 28 _ hnew.out (by kernel_rfl) rfl hone.out ?_; rw [World.setRow_alloc_new]; simp only [Act.put])
  generalize decide (0 < r18) = mir at *
  clear hone hnew
  generalize w18.heap.size = g at *
  generalize (w18.alloc (.cells #[.int .i64 x0, .int .i64 x1, .int .i64 x2, .int .i64 0, .int .i64 x4, .int .i64 x5, .int .i64 x6, .int .i64 x7, .int .i64 x8, .int .i64 x9, .int .i64 x10, .int .i64 x11, .int .i64 x12, .int .i64 x13, .int .i64 x14, .int .i64 x15, .slice av P.ws.length cv, .int .i64 P.ms, .int .i64 P.num, .int .i64 P.den, .int .i64 P.hold, .int .i64 P.win, .string salt, .string ⟨#[99, 111, 104, 111, 114, 116]⟩, .bool mir, .slice none 0 0] 28)) = W at *
  go_cut [0, 2, 3] (fun s0 s2 s3 wx => s0 = .pointer (some ⟨p, 0, none⟩) ∧ s2 = .pointer (some ⟨w.heap.size, 0, none⟩) ∧ s3 = .pointer (some ⟨g, 0, none⟩) ∧ ∃ y3 : Int, CfA w wx p g l x0 x1 x2 y3 x4 x5 x6 x7 x8 x9 x10 x11 x12 x13 x14 x15 (.slice av P.ws.length cv) P salt mir (.slice none 0 0))
  case first =>
    have k0 : W.cell? ⟨g, 0, none⟩ = some (.int .i64 x0) := cell_of_row W g 0 _ _ _ HA.out.row
    go_region_with ((go_at_call 45; refine (next_calls p l 60 _ (HA.out.src.grown ((Below.refl _ _).drew)) (by omega) (by omega)).mono ?_; rintro e w2 ⟨⟨t, rfl, t1, t2⟩, hg2, hs2⟩; have HA2 := Lib.hid (HA.out.next hlt (grownBy_trans (grownBy_below ((Below.refl _ _).drew) _) hg2) hs2); have k2 : w2.cell? ⟨g, 0, none⟩ = some (.int .i64 x0) := cell_of_row w2 g 0 _ _ _ HA2.out.row; have k3 : w2.cell? ⟨g, 3, none⟩ = some (.int .i64 0) := cell_of_row w2 g 3 _ _ _ HA2.out.row; have f3 : w2.frozen? ⟨g, 3, none⟩ = false := frozen_of_row w2 g 3 _ _ HA2.out.row))
    all_goals (go_wp2_with fail; go_meet; case rel => exact ⟨rfl, rfl, rfl, _, HA2.out.set3 hlt _⟩)
  case rest =>
  obtain ⟨rfl, rfl, rfl, y3, HA⟩ := hcut
  have HA := Lib.hid HA
  go_wp2_with fail
  refine (next_calls p l 2 _ HA.out.src (by omega) (by omega)).mono ?_
  rintro e w2 ⟨⟨t, rfl, t1, t2⟩, hg2, hs2⟩
  have HA2 := Lib.hid (HA.out.next hlt hg2 hs2)
  clear HA hg2 hs2 t1 t2
  generalize hrs : (t == 0) = rs
  cases rs with
  | false =>
    have hone := Lib.hid (confCells_one x0 x1 x2 y3 x4 x5 x6 x7 x8 x9 x10 x11 x12 x13 x14 x15 (.slice av P.ws.length cv) P salt mir (.slice none 0 0) rfl rfl)
    unfold confCells at hone
    have hrow := HA2.out.row
    have hres := HA2.out.res
    unfold confRow at hrow
    unfold zconf at hres
    have hrow := Lib.hid hrow
    have hres := Lib.hid hres
    go_wp2_with (first
      | (refine wpList_load_row rfl 28 _ rfl g rfl 28 _ (0, 0) _ hrow.out Tryz.underlying28 rfl (by kernel_rfl) ?_)
      | (refine wpList_store_row rfl 28 (.tmp 2) (.tmp 62) rfl w.heap.size _ rfl rfl 28 _ hres.out (by kernel_rfl) rfl hone.out ?_))
    have hgs := grown_setRow w2 w.heap.size (confCells x0 x1 x2 y3 x4 x5 x6 x7 x8 x9 x10 x11 x12 x13 x14 x15 (.slice av P.ws.length cv) P salt mir (.slice none 0 0)).toArray
    have hof := own_src HA2.out.own hgs (by omega)
    exact finrow _ Tryz.results20 rfl (setRow_heap w2 w.heap.size _ _ _ _ hres.out) Tryz.underlying28 rfl (by kernel_rfl) rfl ⟨⟨x0, x1, x2, y3, x4, x5, x6, x7, x8, x9, x10, x11, x12, x13, x14, x15, .slice av P.ws.length cv, P, salt, mir, (.slice none 0 0), rfl, ⟨Rd_owned hof, HA2.out.in64⟩, World.ownsRow.mono hof (by omega), hsalt, rfl⟩, grownBy_own HA2.out.gr hgs (fun k hk => by have := Option.some.inj hk; omega), src_own HA2.out.src hgs (fun k hk => by have := Option.some.inj hk; omega)⟩
  | true =>
    have HAB := HA2.out.below ((Below.refl _ _).alloc (Nat.le_refl _) (.cells #[.string ⟨#[69, 84, 97, 103]⟩, .string ⟨#[120, 45, 98]⟩] 9))
    have k25 : (w2.alloc (.cells #[.string ⟨#[69, 84, 97, 103]⟩, .string ⟨#[120, 45, 98]⟩] 9)).cell? ⟨g, 25, none⟩ = some (.slice none 0 0) := cell_of_row _ g 25 _ _ _ HAB.row
    have f25 : (w2.alloc (.cells #[.string ⟨#[69, 84, 97, 103]⟩, .string ⟨#[120, 45, 98]⟩] 9)).frozen? ⟨g, 25, none⟩ = false := frozen_of_row _ g 25 _ _ HAB.row
    have HA3 := Lib.hid ((HA2.out.below ((Below.refl _ _).alloc (Nat.le_refl _) (.cells #[.string ⟨#[69, 84, 97, 103]⟩, .string ⟨#[120, 45, 98]⟩] 9))).setI hlt (.slice (some ⟨w2.heap.size, 0, none⟩) 2 2))
    go_upto_region 5 with fail
    clear k25 f25 HA2 HAB
    generalize (w2.alloc (.cells #[.string ⟨#[69, 84, 97, 103]⟩, .string ⟨#[120, 45, 98]⟩] 9)).setCell ⟨g, 25, none⟩ (.slice (some ⟨w2.heap.size, 0, none⟩) 2 2) = w3 at *
    generalize w2.heap.size = n2 at *
    have hone := Lib.hid (confCells_one x0 x1 x2 y3 x4 x5 x6 x7 x8 x9 x10 x11 x12 x13 x14 x15 (.slice av P.ws.length cv) P salt mir (.slice (some ⟨n2, 0, none⟩) 2 2) rfl rfl)
    unfold confCells at hone
    have hrow := HA3.out.row
    have hres := HA3.out.res
    unfold confRow at hrow
    unfold zconf at hres
    have hrow := Lib.hid hrow
    have hres := Lib.hid hres
    go_wp2_with (first
      | (refine wpList_load_row rfl 28 _ rfl g rfl 28 _ (0, 0) _ hrow.out Tryz.underlying28 rfl (by kernel_rfl) ?_)
      | (refine wpList_store_row rfl 28 (.tmp 2) (.tmp 62) rfl w.heap.size _ rfl rfl 28 _ hres.out (by kernel_rfl) rfl hone.out ?_))
    have hgs := grown_setRow w3 w.heap.size (confCells x0 x1 x2 y3 x4 x5 x6 x7 x8 x9 x10 x11 x12 x13 x14 x15 (.slice av P.ws.length cv) P salt mir (.slice (some ⟨n2, 0, none⟩) 2 2)).toArray
    have hof := own_src HA3.out.own hgs (by omega)
    exact finrow _ Tryz.results20 rfl (setRow_heap w3 w.heap.size _ _ _ _ hres.out) Tryz.underlying28 rfl (by kernel_rfl) rfl ⟨⟨x0, x1, x2, y3, x4, x5, x6, x7, x8, x9, x10, x11, x12, x13, x14, x15, .slice av P.ws.length cv, P, salt, mir, (.slice (some ⟨n2, 0, none⟩) 2 2), rfl, ⟨Rd_owned hof, HA3.out.in64⟩, World.ownsRow.mono hof (by omega), hsalt, rfl⟩, grownBy_own HA3.out.gr hgs (fun k hk => by have := Option.some.inj hk; omega), src_own HA3.out.src hgs (fun k hk => by have := Option.some.inj hk; omega)⟩
end Go.Proofs.YtfmokccoilgpmaaGreatDoor
