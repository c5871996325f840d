/- ParseReply of package head. -/
import Derived.Test.YtglljdhhgmgbgaaGreatDoorHeadR
namespace Go.Proofs.YtglljdhhgmgbgaaGreatDoor
open Go.RowKit Go.Own
set_option linter.unusedVariables false
set_option maxHeartbeats 4000000

def RepV (B : Nat) (q : (Int × ByteArray × Int × List Fld) × Int) (e : Ending) (w' : World) : Prop :=
  ∃ vx, e = .returned (.tuple #[.agg #[.int .i64 q.1.1, .string q.1.2.1, .int .i64 q.1.2.2.1, vx, .slice none 0 0], .int .i64 q.2]) ∧ OwnF B w' vx q.1.2.2.2
theorem RepV_zero {B : Nat} {q : (Int × ByteArray × Int × List Fld) × Int} {w' : World} {k : Int} (h : q = ((0, .empty, 0, []), k)) :
    RepV B q (.returned (.tuple #[.agg #[.int .i64 0, .string .empty, .int .i64 0, .slice none 0 0, .slice none 0 0], .int .i64 k])) w' := by
  subst h; exact ⟨_, rfl, World.ownsRow_nil _ _ _ _⟩
theorem RepV_ok {B : Nat} {q : (Int × ByteArray × Int × List Fld) × Int} {w' : World} {rs : ByteArray} {st n : Int} {x : List Fld} {vx : Value} (h : q = ((st, rs, n, x), 0)) (hx : OwnF B w' vx x) :
    RepV B q (.returned (.tuple #[.agg #[.int .i64 st, .string rs, .int .i64 n, vx, .slice none 0 0], .int .i64 0])) w' := by
  subst h; exact ⟨_, rfl, hx⟩
/-- a struct of 5 cells is stored into the result's block, and the call returns -/
theorem fin5g {P : Program} {fn : Func} {R : Ending → World → Prop} {a : Act} {w1 : World} {g : Nat} {x0 x1 x2 x3 x4 y0 y1 y2 y3 y4 : Value} {T : TypeId} (mk : Value → Value) (h : w1.heap[g]? = some (.cells #[x0, x1, x2, x3, x4] T))
    (hres : ∀ w2 : World, w2.cell? ⟨g, 0, none⟩ = some y0 → w2.cell? ⟨g, 1, none⟩ = some y1 → w2.cell? ⟨g, 2, none⟩ = some y2 → w2.cell? ⟨g, 3, none⟩ = some y3 → w2.cell? ⟨g, 4, none⟩ = some y4 → (results fn a.tmps).run P w2 = .ok (mk (.agg #[y0, y1, y2, y3, y4])) w2) (hd : a.defers = []) (hR : ∀ w2 : World, w1.grownBy w2 (some g) → R (.returned (mk (.agg #[y0, y1, y2, y3, y4]))) w2) :
    bodyPost P fn R .ret a (((((w1.setCell ⟨g, 0, none⟩ y0).setCell ⟨g, 1, none⟩ y1).setCell ⟨g, 2, none⟩ y2).setCell ⟨g, 3, none⟩ y3).setCell ⟨g, 4, none⟩ y4) := by
  have hh := (set5 (B := 0) (w := w1) y0 y1 y2 y3 y4 h ⟨rfl, rfl, rfl, Nat.le_refl _, fun _ hk => absurd hk (Nat.not_lt_zero _)⟩ (Nat.zero_le _)).1
  have hb : w1.grownBy (((((w1.setCell ⟨g, 0, none⟩ y0).setCell ⟨g, 1, none⟩ y1).setCell ⟨g, 2, none⟩ y2).setCell ⟨g, 3, none⟩ y3).setCell ⟨g, 4, none⟩ y4) (some g) :=
    grownBy_trans (grownBy_trans (grownBy_trans (grownBy_trans (grown_set _ g 0 _) (grown_set _ g 1 _)) (grown_set _ g 2 _)) (grown_set _ g 3 _)) (grown_set _ g 4 _)
  generalize (((((w1.setCell ⟨g, 0, none⟩ y0).setCell ⟨g, 1, none⟩ y1).setCell ⟨g, 2, none⟩ y2).setCell ⟨g, 3, none⟩ y3).setCell ⟨g, 4, none⟩ y4) = w2 at hh hb ⊢
  obtain ⟨⟨c0, c1, c2, c3, c4⟩, -, -⟩ := row5 hh
  exact bodyPost_ret (hres w2 c0 c1 c2 c3 c4) hd (hR w2 hb)

set_option maxRecDepth 100000 in
theorem hrep_calls (v : Value) (b : List UInt8) (w : World) (hE : Env w) (H : RdB w v b) (hb : b.length ≤ 2000000) :
    Calls Tryz.prog 21 #[v] w fun e w' => RepV w.heap.size (repB b) e w' ∧ Below w.heap.size w w' := by
  have HB0 := (Below.refl w.heap.size w).alloc (Nat.le_refl _) (.cells #[.int .i64 0, .string .empty, .int .i64 0, .slice none 0 0, .slice none 0 0] 37)
  rcases linesS_cases b with hl | ⟨s, r, hl⟩
  · have HR := Lib.hid (fun w' => RepV_zero (B := w.heap.size) (w' := w') (repB_none hl))
    have HC := Lib.hid (hlines_no (hE.below HB0) (H.below HB0) hb hl)
    obtain ⟨a, cap, rfl, -, -, -, -⟩ := H
    clear hl hb
    go_enter Tryz.func21, Tryz.ntmps21
    go_wp2_with fail
    refine HC.out.mono ?_
    rintro e w1 ⟨rfl, hb1⟩
    have HA := Lib.hid (row_new hb1)
    have HB := kept_below hb1
    obtain ⟨⟨c0, c1, c2, c3, c4⟩, ⟨f0, f1, f2, f3, f4⟩, hz⟩ := row5 HA.out
    clear hb1 HB0
    go_wp2
    exact fin5 (fun x => .tuple #[x, .int .i64 2]) HA.out HB (Nat.le_refl _) (fun w2 c0 c1 c2 c3 c4 => by simp [results, Tryz.results21, go_sem, c0, c1, c2, c3, c4]) rfl (fun w2 hb => ⟨HR.out _, hb⟩)
  · have HC := Lib.hid (hlines_ok (hE.below HB0) (H.below HB0) hb hl)
    have hss := linesS_size hl
    have hsc := linesS_count hl
    have hs : s.size < 4294967281 := by have := hss s (List.mem_cons_self ..); omega
    have hrl : r.length ≤ 2000000 := by simp at hsc; omega
    have hrz : ∀ x ∈ r, x.size < 4294967281 := fun x hx => by have := hss x (List.mem_cons_of_mem _ hx); omega
    have HQ := Lib.hid (fun w hE => parseSt_calls s w hE hs)
    have HFC := Lib.hid (fun va w hE Ha => hfields_calls va r w hE Ha hrl hrz)
    obtain ⟨a, cap, rfl, -, -, -, -⟩ := H
    clear hss hsc hs hb
    rcases hp : parseSt s with _ | ⟨st, rs, n⟩
    rotate_left
    · have HBF := Lib.hid (fun h w' => RepV_zero (B := w.heap.size) (w' := w') (repB_fields hl hp h))
      have HOK := Lib.hid (fun h w' vx hx => RepV_ok (B := w.heap.size) (w' := w') (vx := vx) (repB_ok hl hp h) hx)
      have HNM := Lib.hid (fieldsP_names r (fun x hx => Nat.le_of_lt (hrz x hx)))
      rw [hp] at HQ
      simp only [repV, stErr, Option.isSome_some, if_true] at HQ
      clear hl hp hrz
      generalize hq : fieldsP r = q at HFC HBF HOK HNM
      obtain ⟨x, k⟩ := q
      clear hq
      simp only at HBF HOK HNM
      go_enter Tryz.func21, Tryz.ntmps21
      go_wp2_with fail
      refine HC.out.mono ?_
      rintro e w1 ⟨⟨v1, rfl, hr1⟩, hb1⟩
      obtain ⟨a1, cp1, rfl, -, -, -, -⟩ := id hr1
      have HA := Lib.hid (row_new hb1)
      have HB := kept_below hb1
      have HQ := Lib.hid (HQ.out w1 (hE.below HB))
      have HR1 := Lib.hid hr1
      clear hr1
      clear hb1 HB0 HC
      go_wp2_with fail
      refine HQ.out.mono ?_
      rintro e w2 ⟨rfl, hb2⟩
      have HX := box_one (w1 := w2) (.cells #[.int .i64 st, .string rs, .int .i64 n, .slice none 0 0, .slice none 0 0] 37)
      have HA3 := Lib.hid (row_below (row_below HA.out hb2) HX)
      have HG3 := Lib.hid (heap_alloc_new w2 (.cells #[.int .i64 st, .string rs, .int .i64 n, .slice none 0 0, .slice none 0 0] 37))
      have HB3 := Below.self_trans (Below.self_trans HB hb2) HX
      have HF3 := Lib.hid (HFC.out _ _ (hE.below HB3) ((HR1.out.below hb2).below HX))
      have hlt := (Array.getElem?_eq_some_iff.1 (row_below HA.out hb2)).1
      clear HA HB hb2 HQ HR1 HX HFC
      go_wp2_with fail
      refine HF3.out.mono ?_
      rintro e w4 ⟨⟨vx, rfl, hof⟩, hb4⟩
      obtain ⟨ax, cx, rfl, -, -, -⟩ := owned_slice hof
      have HA4 := row_below HA3.out hb4
      have HG4 := row_below HG3.out hb4
      have HB4 := Lib.hid (Below.self_trans HB3 hb4)
      obtain ⟨⟨-, -, -, c3, -⟩, ⟨-, -, -, f3, -⟩, -⟩ := row5 HG4
      have hg := grown_set w4 w2.heap.size 3 (.slice ax x.length cx)
      have HA5 := Lib.hid ((hg.block _ (Array.getElem?_eq_some_iff.1 HA4).1 (by intro e; have := Option.some.inj e; omega)).trans HA4)
      have HG5 := Lib.hid (show (w4.setCell ⟨w2.heap.size, 3, none⟩ (.slice ax x.length cx)).heap[w2.heap.size]? = some (.cells #[.int .i64 st, .string rs, .int .i64 n, .slice ax x.length cx, .slice none 0 0] 37) from (heap_setCell_same w4 w2.heap.size 3 _ _ (.slice ax x.length cx) HG4).trans (by simp))
      rw [World.size_alloc] at hof
      have HO5 := Lib.hid (show OwnF (w2.heap.size + 1) (w4.setCell ⟨w2.heap.size, 3, none⟩ (.slice ax x.length cx)) (.slice ax x.length cx) x from own_src hof hg (by omega))
      have HB5 := Lib.hid (HB4.out.setCell (p := ⟨w2.heap.size, 3, none⟩) (Nat.le_of_lt hlt) (.slice ax x.length cx))
      obtain ⟨⟨k0, k1, k2, k3, k4⟩, -, -⟩ := row5 HG5.out
      obtain ⟨⟨a_0, a_1, a_2, a_3, a_4⟩, ⟨g_0, g_1, g_2, g_3, g_4⟩, -⟩ := row5 HA5.out
      clear HA3 HG3 HB3 HF3 hb4 hof HA4 HG4 HB4 hg
      by_cases hk : k = 0
      · subst hk
        have HR := Lib.hid (HOK.out rfl)
        clear HBF HOK HNM HG5
        go_wp2
        exact fin5g (fun x => .tuple #[x, .int .i64 0]) HA5.out (fun w2 c0 c1 c2 c3 c4 => by simp [results, Tryz.results21, go_sem, c0, c1, c2, c3, c4]) rfl (fun w7 hg => ⟨HR.out w7 _ (World.ownsRow.mono (own_src HO5.out hg (by omega)) (by omega)), HB5.out.grown hg HB5.out.size (fun k hk => by have := Option.some.inj hk; omega)⟩)
      · have hk2 : (k != 0) = true := neq_int hk
        have HR := Lib.hid (HBF.out hk)
        clear hk HBF HOK HNM HG5 HO5
        go_wp2
        exact fin5 (fun x => .tuple #[x, .int .i64 k]) HA5.out HB5.out (Nat.le_refl _) (fun w2 c0 c1 c2 c3 c4 => by simp [results, Tryz.results21, go_sem, c0, c1, c2, c3, c4]) rfl (fun w2 hb => ⟨HR.out _, hb⟩)
    · have HR := Lib.hid (fun w' => RepV_zero (B := w.heap.size) (w' := w') (repB_line hl hp))
      rw [hp] at HQ
      simp only [repV, stErr, Option.isSome_none, Bool.false_eq_true, if_false] at HQ
      clear hl hp HFC hrz
      go_enter Tryz.func21, Tryz.ntmps21
      go_wp2_with fail
      refine HC.out.mono ?_
      rintro e w1 ⟨⟨v1, rfl, hr1⟩, hb1⟩
      clear hr1
      have HA := Lib.hid (row_new hb1)
      have HB := kept_below hb1
      have HQ := Lib.hid (HQ.out w1 (hE.below HB))
      clear hb1 HB0 HC
      go_wp2_with fail
      refine HQ.out.mono ?_
      rintro e w2 ⟨rfl, hb2⟩
      have HX := box_one (w1 := w2) (.cells #[.int .i64 0, .string .empty, .int .i64 0, .slice none 0 0, .slice none 0 0] 37)
      have HA3 := Lib.hid (row_below (row_below HA.out hb2) HX)
      have HB3 := Below.self_trans (Below.self_trans HB hb2) HX
      obtain ⟨⟨a_0, a_1, a_2, a_3, a_4⟩, ⟨g_0, g_1, g_2, g_3, g_4⟩, -⟩ := row5 HA3.out
      clear HA HB hb2 HQ HX
      go_wp2
      exact fin5 (fun x => .tuple #[x, .int .i64 2]) HA3.out HB3 (Nat.le_refl _) (fun w2 c0 c1 c2 c3 c4 => by simp [results, Tryz.results21, go_sem, c0, c1, c2, c3, c4]) rfl (fun w2 hb => ⟨HR.out _, hb⟩)
end Go.Proofs.YtglljdhhgmgbgaaGreatDoor
