/- the reference's rollout: Tick, Step, Run. -/
import Derived.Test.YtfmokccoilgpmaaGreatDoorRoll
import Derived.Test.YtfmokccoilgpmaaGreatDoorSrcR
import Derived.Test.YtfmokccoilgpmaaGreatDoorStepM
namespace Go.Proofs.YtfmokccoilgpmaaGreatDoor
open Go.RowKit Go.Own
set_option linter.unusedVariables false
set_option linter.unusedSimpArgs false
set_option maxHeartbeats 4000000
set_option maxRecDepth 20000

theorem heap_three' (w : World) (A B C : Obj) : (((w.alloc A).alloc B).alloc C).heap[w.heap.size]? = some A ∧ (((w.alloc A).alloc B).alloc C).heap[w.heap.size + 1]? = some B ∧ (((w.alloc A).alloc B).alloc C).heap[w.heap.size + 1 + 1]? = some C := heap_three w A B C
/-- where Tick stands: the rollout at its block, the plan's row above it, the result's block -/
structure TkA (w W : World) (P : Pl) (vw : Value) (a b c x y z : Int) : Prop where
  row : W.heap[w.heap.size]? = some (rollO a b c x y z)
  pl : W.heap[w.heap.size + 1]? = some (.cells #[vw, .int .i64 P.ms, .int .i64 P.num, .int .i64 P.den, .int .i64 P.hold, .int .i64 P.win] 25)
  res : ∃ a b c x y z, W.heap[w.heap.size + 1 + 1]? = some (rollO a b c x y z)
  hb : Below w.heap.size w W
theorem TkA.below {w W W' : World} {P : Pl} {vw : Value} {a b c x y z : Int} (h : TkA w W P vw a b c x y z) (hb : Below W.heap.size W W') : TkA w W' P vw a b c x y z :=
  ⟨row_below h.row hb, row_below h.pl hb, by obtain ⟨a, b, c, x, y, z, hr⟩ := h.res; exact ⟨_, _, _, _, _, _, row_below hr hb⟩, Below.self_trans h.hb hb⟩
theorem TkA.put {w W W' : World} {P : Pl} {vw : Value} {a b c x y z a' b' c' x' y' z' : Int} (h : TkA w W P vw a b c x y z) (hg : W.grownBy W' (some w.heap.size)) (hr : W'.heap[w.heap.size]? = some (rollO a' b' c' x' y' z')) : TkA w W' P vw a' b' c' x' y' z' :=
  ⟨hr, (hg.block _ (Array.getElem?_eq_some_iff.1 h.pl).1 (by intro e; have := Option.some.inj e; omega)).trans h.pl,
   by obtain ⟨a, b, c, x, y, z, hr⟩ := h.res; exact ⟨_, _, _, _, _, _, (hg.block _ (Array.getElem?_eq_some_iff.1 hr).1 (by intro e; have := Option.some.inj e; omega)).trans hr⟩,
   ⟨hg.os.trans h.hb.os, hg.tape.trans h.hb.tape, hg.output.trans h.hb.output, Nat.le_trans h.hb.size hg.size, fun k hk => (hg.block k (Nat.lt_of_lt_of_le hk h.hb.size) (by intro e; have := Option.some.inj e; omega)).trans (h.hb.block k hk)⟩⟩

theorem tick_calls (P : Pl) (v : Value) (st sg he t er ag : Int) (w : World) (h : PlV w v P) :
    Calls Tryz.prog 73 #[.agg #[.int .i64 st, .int .i64 sg, .int .i64 he, .int .i64 t, .int .i64 er, .int .i64 ag], v] w fun e w' => IsRoll e ∧ Below w.heap.size w w' := by
  obtain ⟨vw, rfl, hr⟩ := id h
  have H3 := heap_three w (rollO st sg he t er ag) (.cells #[vw, .int .i64 P.ms, .int .i64 P.num, .int .i64 P.den, .int .i64 P.hold, .int .i64 P.win] 25) (rollO 0 0 0 0 0 0)
  have HB := (box_two (w1 := w) (rollO st sg he t er ag) (.cells #[vw, .int .i64 P.ms, .int .i64 P.num, .int .i64 P.den, .int .i64 P.hold, .int .i64 P.win] 25)).alloc (by simp; omega) (rollO 0 0 0 0 0 0)
  have HA : TkA w (((w.alloc (rollO st sg he t er ag)).alloc (.cells #[vw, .int .i64 P.ms, .int .i64 P.num, .int .i64 P.den, .int .i64 P.hold, .int .i64 P.win] 25)).alloc (rollO 0 0 0 0 0 0)) P vw st sg he t er ag := ⟨H3.1, H3.2.1, ⟨_, _, _, _, _, _, H3.2.2⟩, HB⟩
  have HP := Lib.hid h
  clear H3 HB h hr
  unfold rollO at HA
  have HA := Lib.hid HA
  unfold Pl.agg at *
  obtain ⟨ws, ms, num, den, hold, win⟩ := P
  by_cases h1 : st = 1
  · subst h1
    go_enter Tryz.func73, Tryz.ntmps73
    go_wp2_with fail
    generalize (((w.alloc (.cells #[.int .i64 1, .int .i64 sg, .int .i64 he, .int .i64 t, .int .i64 er, .int .i64 ag] 32)).alloc (.cells #[vw, .int .i64 ms, .int .i64 num, .int .i64 den, .int .i64 hold, .int .i64 win] 25)).alloc (.cells #[.int .i64 0, .int .i64 0, .int .i64 0, .int .i64 0, .int .i64 0, .int .i64 0] 32)) = w1 at *
    refine (tickW_calls _ _ _ _ _).mono ?_
    rintro e w2 ⟨⟨x, y, z, b, rfl⟩, hb⟩
    have HA2 := Lib.hid (HA.out.below hb)
    clear HA hb
    go_upto_region 4 with fail
    have hx3 := (Below.refl w2.heap.size w2).alloc (Nat.le_refl _) (.cells #[.int .i64 x, .int .i64 y, .int .i64 z] 30)
    have K3 := Lib.hid (heap_alloc_new w2 (.cells #[.int .i64 x, .int .i64 y, .int .i64 z] 30))
    have HA3 := Lib.hid (HA2.out.below hx3)
    clear HA2 hx3
    generalize w2.heap.size = g5 at *
    generalize w2.alloc (.cells #[.int .i64 x, .int .i64 y, .int .i64 z] 30) = w3 at *
    have hrow := HA3.out.row
    unfold rollO at hrow
    obtain ⟨⟨c0, c1, c2, c3, c4, c5⟩, -, -⟩ := row6 hrow
    clear hrow
    go_upto_region 5 with fail
    have hx4 := (Below.refl w3.heap.size w3).alloc (Nat.le_refl _) (.cells #[.int .i64 t, .int .i64 er, .int .i64 ag] 30)
    have K4 := Lib.hid (heap_alloc_new w3 (.cells #[.int .i64 t, .int .i64 er, .int .i64 ag] 30))
    have K5 := Lib.hid (row_below K3.out hx4)
    have HA4 := Lib.hid (HA3.out.below hx4)
    have hl4 := (Array.getElem?_eq_some_iff.1 HA3.out.pl).1
    clear HA3 hx4 c0 c1 c2 c3 c4 c5 K3
    generalize w3.heap.size = g7 at *
    generalize w3.alloc (.cells #[.int .i64 t, .int .i64 er, .int .i64 ag] 30) = w4 at *
    have hrow := HA4.out.row
    unfold rollO at hrow
    obtain ⟨⟨c0, c1, c2, c3, c4, c5⟩, ⟨f0, f1, f2, f3, f4, f5⟩, -⟩ := row6 hrow
    obtain ⟨⟨k0, k1, k2⟩, -, -⟩ := row3 K5.out
    go_upto_region 6 with fail
    have hg5 := grownBy_trans (grownBy_trans (grown_set w4 w.heap.size 3 (.int .i64 x)) (grown_set _ w.heap.size 4 (.int .i64 y))) (grown_set _ w.heap.size 5 (.int .i64 z))
    have q1 : (w4.setCell ⟨w.heap.size, 3, none⟩ (.int .i64 x)).heap[w.heap.size]? = some (rollO 1 sg he x er ag) := (heap_setCell_same w4 _ 3 _ _ _ HA4.out.row).trans (by simp [rollO])
    have q2 : ((w4.setCell ⟨w.heap.size, 3, none⟩ (.int .i64 x)).setCell ⟨w.heap.size, 4, none⟩ (.int .i64 y)).heap[w.heap.size]? = some (rollO 1 sg he x y ag) := (heap_setCell_same _ _ 4 _ _ _ q1).trans (by simp [rollO])
    have q3 : (((w4.setCell ⟨w.heap.size, 3, none⟩ (.int .i64 x)).setCell ⟨w.heap.size, 4, none⟩ (.int .i64 y)).setCell ⟨w.heap.size, 5, none⟩ (.int .i64 z)).heap[w.heap.size]? = some (rollO 1 sg he x y z) := (heap_setCell_same _ _ 5 _ _ _ q2).trans (by simp [rollO])
    have HA5 := Lib.hid (HA4.out.put hg5 q3)
    have K6 := Lib.hid ((hg5.block g7 (Array.getElem?_eq_some_iff.1 K4.out).1 (by intro e; have := Option.some.inj e; omega)).trans K4.out)
    clear HA4 K4 K5 hg5 q1 q2 q3 c0 c1 c2 c3 c4 c5 f0 f1 f2 f3 f4 f5 k0 k1 k2 hrow
    generalize (((w4.setCell ⟨w.heap.size, 3, none⟩ (.int .i64 x)).setCell ⟨w.heap.size, 4, none⟩ (.int .i64 y)).setCell ⟨w.heap.size, 5, none⟩ (.int .i64 z)) = w5 at *
    cases b with
    | false =>
      have hrow := HA5.out.row
      obtain ⟨r1, r2, r3, r4, r5, r6, hres⟩ := HA5.out.res
      unfold rollO at hrow hres
      obtain ⟨⟨c0, c1, c2, c3, c4, c5⟩, ⟨f0, f1, f2, f3, f4, f5⟩, -⟩ := row6 hrow
      obtain ⟨⟨d0, d1, d2, d3, d4, d5⟩, ⟨e0, e1, e2, e3, e4, e5⟩, -⟩ := row6 hres
      have hres := Lib.hid hres
      clear hrow
      go_wp2
      exact fin6g id hres.out (fun w2 c0 c1 c2 c3 c4 c5 => by simp [results, Tryz.results73, go_sem, c0, c1, c2, c3, c4, c5]) rfl (fun w5 hgr => ⟨⟨_, _, _, _, _, _, rfl⟩, below_src HA5.out.hb hgr (by omega)⟩)
    | true =>
      obtain ⟨⟨k0, k1, k2⟩, -, -⟩ := row3 K6.out
      obtain ⟨⟨p0, p1, p2, p3, p4, p5⟩, -, -⟩ := row6 HA5.out.pl
      have HV := Lib.hid (verdict_calls ⟨ws, ms, num, den, hold, win⟩ _ t er ag w5 (HP.out.below HA5.out.hb))
      go_wp2_with fail
      refine HV.out.mono ?_
      rintro e w6 ⟨⟨k, rfl⟩, hb⟩
      have HA6 := Lib.hid (HA5.out.below hb)
      clear HV HA5 hb K6 k0 k1 k2 p0 p1 p2 p3 p4 p5
      obtain ⟨⟨p0, p1, p2, p3, p4, p5⟩, -, -⟩ := row6 HA6.out.pl
      have HP6 := Lib.hid (HP.out.below HA6.out.hb)
      obtain ⟨vw2, hv2, hrd⟩ := HP.out.below HA6.out.hb
      have hv3 : vw = vw2 := by simpa [Pl.agg] using hv2
      subst hv3
      obtain ⟨⟨aw, cw, rfl, -, -, -, -⟩, -⟩ := hrd
      clear hv2 HP6
      by_cases h3 : k = 3
      · subst h3
        have hrow := HA6.out.row
        obtain ⟨r1, r2, r3, r4, r5, r6, hres⟩ := HA6.out.res
        unfold rollO at hrow hres
        obtain ⟨⟨c0, c1, c2, c3, c4, c5⟩, ⟨f0, f1, f2, f3, f4, f5⟩, -⟩ := row6 hrow
        obtain ⟨⟨d0, d1, d2, d3, d4, d5⟩, ⟨e0, e1, e2, e3, e4, e5⟩, -⟩ := row6 hres
        have hres := Lib.hid hres
        clear hrow
        go_wp2
        exact fin6g id hres.out (fun w2 c0 c1 c2 c3 c4 c5 => by simp [results, Tryz.results73, go_sem, c0, c1, c2, c3, c4, c5]) rfl (fun w5 hgr => ⟨⟨_, _, _, _, _, _, rfl⟩, below_src HA6.out.hb hgr (by omega)⟩)
      · have e3 : (k == 3) = false := by simpa using h3
        clear h3
        by_cases h1 : k = 1
        · subst h1
          clear e3
          have hrow := HA6.out.row
          obtain ⟨r1, r2, r3, r4, r5, r6, hres⟩ := HA6.out.res
          unfold rollO at hrow hres
          obtain ⟨⟨c0, c1, c2, c3, c4, c5⟩, ⟨f0, f1, f2, f3, f4, f5⟩, -⟩ := row6 hrow
          obtain ⟨⟨d0, d1, d2, d3, d4, d5⟩, ⟨e0, e1, e2, e3, e4, e5⟩, -⟩ := row6 hres
          have hres := Lib.hid hres
          go_upto_region 20 with fail
          have HA7 := Lib.hid (HA6.out.put (grown_set w6 w.heap.size 2 (.int .i64 0)) (show _ = some (rollO 1 sg 0 x y z) from (heap_setCell_same w6 _ 2 _ _ _ HA6.out.row).trans (by simp [rollO])))
          clear HA6 c0 c1 c2 c3 c4 c5 f0 f1 f2 f3 f4 f5 d0 d1 d2 d3 d4 d5 e0 e1 e2 e3 e4 e5 hrow hres p0 p1 p2 p3 p4 p5
          generalize w6.setCell ⟨w.heap.size, 2, none⟩ (.int .i64 0) = w7 at *
          have hrow := HA7.out.row
          obtain ⟨r1, r2, r3, r4, r5, r6, hres⟩ := HA7.out.res
          unfold rollO at hrow hres
          obtain ⟨⟨c0, c1, c2, c3, c4, c5⟩, ⟨f0, f1, f2, f3, f4, f5⟩, -⟩ := row6 hrow
          obtain ⟨⟨d0, d1, d2, d3, d4, d5⟩, ⟨e0, e1, e2, e3, e4, e5⟩, -⟩ := row6 hres
          have hres := Lib.hid hres
          clear hrow
          go_wp2
          exact fin6g id hres.out (fun w2 c0 c1 c2 c3 c4 c5 => by simp [results, Tryz.results73, go_sem, c0, c1, c2, c3, c4, c5]) rfl (fun w5 hgr => ⟨⟨_, _, _, _, _, _, rfl⟩, below_src HA7.out.hb hgr (by omega)⟩)
        · have e1 : (k == 1) = false := by simpa using h1
          clear h1
          by_cases h2 : k = 2
          · subst h2
            clear e3 e1
            clear p0 p1 p2 p3 p4 p5
            have hrow := HA6.out.row
            obtain ⟨r1, r2, r3, r4, r5, r6, hres⟩ := HA6.out.res
            have hpl := HA6.out.pl
            unfold rollO at hrow hres
            obtain ⟨⟨c0, c1, c2, c3, c4, c5⟩, ⟨f0, f1, f2, f3, f4, f5⟩, -⟩ := row6 hrow
            obtain ⟨⟨d0, d1, d2, d3, d4, d5⟩, ⟨e0, e1, e2, e3, e4, e5⟩, -⟩ := row6 hres
            obtain ⟨⟨p0, p1, p2, p3, p4, p5⟩, -, -⟩ := row6 hpl
            have hres := Lib.hid hres
            clear hrow hpl
            go_upto_region 15 with fail
            have HA7 := Lib.hid (HA6.out.put (grown_set w6 w.heap.size 2 (.int .i64 (wrap64 (he + 1)))) (show _ = some (rollO 1 sg (wrap64 (he + 1)) x y z) from (heap_setCell_same w6 _ 2 _ _ _ HA6.out.row).trans (by simp [rollO])))
            clear HA6 c0 c1 c2 c3 c4 c5 f0 f1 f2 f3 f4 f5 d0 d1 d2 d3 d4 d5 e0 e1 e2 e3 e4 e5 hres p0 p1 p2 p3 p4 p5
            generalize w6.setCell ⟨w.heap.size, 2, none⟩ (.int .i64 (wrap64 (he + 1))) = w7 at *
            generalize wrap64 (he + 1) = h2 at *
            have hrow := HA7.out.row
            obtain ⟨r1, r2, r3, r4, r5, r6, hres⟩ := HA7.out.res
            have hpl := HA7.out.pl
            unfold rollO at hrow hres
            obtain ⟨⟨c0, c1, c2, c3, c4, c5⟩, ⟨f0, f1, f2, f3, f4, f5⟩, -⟩ := row6 hrow
            obtain ⟨⟨d0, d1, d2, d3, d4, d5⟩, ⟨e0, e1, e2, e3, e4, e5⟩, -⟩ := row6 hres
            obtain ⟨⟨p0, p1, p2, p3, p4, p5⟩, -, -⟩ := row6 hpl
            have hres := Lib.hid hres
            clear hrow hpl
            cases hhb : (h2 == hold) with
            | false =>
              go_wp2
              exact fin6g id hres.out (fun w2 c0 c1 c2 c3 c4 c5 => by simp [results, Tryz.results73, go_sem, c0, c1, c2, c3, c4, c5]) rfl (fun w5 hgr => ⟨⟨_, _, _, _, _, _, rfl⟩, below_src HA7.out.hb hgr (by omega)⟩)
            | true =>
              go_upto_region 17 with fail
              have HA8 := Lib.hid (HA7.out.put (grown_set w7 w.heap.size 2 (.int .i64 0)) (show _ = some (rollO 1 sg 0 x y z) from (heap_setCell_same w7 _ 2 _ _ _ HA7.out.row).trans (by simp [rollO])))
              clear HA7 c0 c1 c2 c3 c4 c5 f0 f1 f2 f3 f4 f5 d0 d1 d2 d3 d4 d5 e0 e1 e2 e3 e4 e5 hres p0 p1 p2 p3 p4 p5 hhb
              generalize w7.setCell ⟨w.heap.size, 2, none⟩ (.int .i64 0) = w8 at *
              have hrow := HA8.out.row
              obtain ⟨r1, r2, r3, r4, r5, r6, hres⟩ := HA8.out.res
              have hpl := HA8.out.pl
              unfold rollO at hrow hres
              obtain ⟨⟨c0, c1, c2, c3, c4, c5⟩, ⟨f0, f1, f2, f3, f4, f5⟩, -⟩ := row6 hrow
              obtain ⟨⟨d0, d1, d2, d3, d4, d5⟩, ⟨e0, e1, e2, e3, e4, e5⟩, -⟩ := row6 hres
              obtain ⟨⟨p0, p1, p2, p3, p4, p5⟩, -, -⟩ := row6 hpl
              have hres := Lib.hid hres
              clear hrow hpl
              go_upto_region 18 with fail
              have HA9 := Lib.hid (HA8.out.put (grown_set w8 w.heap.size 1 (.int .i64 (wrap64 (sg + 1)))) (show _ = some (rollO 1 (wrap64 (sg + 1)) 0 x y z) from (heap_setCell_same w8 _ 1 _ _ _ HA8.out.row).trans (by simp [rollO])))
              clear HA8 c0 c1 c2 c3 c4 c5 f0 f1 f2 f3 f4 f5 d0 d1 d2 d3 d4 d5 e0 e1 e2 e3 e4 e5 hres p0 p1 p2 p3 p4 p5
              generalize w8.setCell ⟨w.heap.size, 1, none⟩ (.int .i64 (wrap64 (sg + 1))) = w9 at *
              generalize wrap64 (sg + 1) = s2 at *
              have hrow := HA9.out.row
              obtain ⟨r1, r2, r3, r4, r5, r6, hres⟩ := HA9.out.res
              have hpl := HA9.out.pl
              unfold rollO at hrow hres
              obtain ⟨⟨c0, c1, c2, c3, c4, c5⟩, ⟨f0, f1, f2, f3, f4, f5⟩, -⟩ := row6 hrow
              obtain ⟨⟨d0, d1, d2, d3, d4, d5⟩, ⟨e0, e1, e2, e3, e4, e5⟩, -⟩ := row6 hres
              obtain ⟨⟨p0, p1, p2, p3, p4, p5⟩, -, -⟩ := row6 hpl
              have hres := Lib.hid hres
              clear hrow hpl
              cases hlb : (s2 == (ws.length : Int)) with
              | false =>
                go_wp2
                exact fin6g id hres.out (fun w2 c0 c1 c2 c3 c4 c5 => by simp [results, Tryz.results73, go_sem, c0, c1, c2, c3, c4, c5]) rfl (fun w5 hgr => ⟨⟨_, _, _, _, _, _, rfl⟩, below_src HA9.out.hb hgr (by omega)⟩)
              | true =>
                go_wp2
                exact fin6g id hres.out (fun w2 c0 c1 c2 c3 c4 c5 => by simp [results, Tryz.results73, go_sem, c0, c1, c2, c3, c4, c5]) rfl (fun w5 hgr => ⟨⟨_, _, _, _, _, _, rfl⟩, below_src HA9.out.hb hgr (by omega)⟩)
          · have e2 : (k == 2) = false := by simpa using h2
            clear h2
            have hrow := HA6.out.row
            obtain ⟨r1, r2, r3, r4, r5, r6, hres⟩ := HA6.out.res
            unfold rollO at hrow hres
            obtain ⟨⟨c0, c1, c2, c3, c4, c5⟩, ⟨f0, f1, f2, f3, f4, f5⟩, -⟩ := row6 hrow
            obtain ⟨⟨d0, d1, d2, d3, d4, d5⟩, ⟨e0, e1, e2, e3, e4, e5⟩, -⟩ := row6 hres
            have hres := Lib.hid hres
            clear hrow
            go_wp2
            exact fin6g id hres.out (fun w2 c0 c1 c2 c3 c4 c5 => by simp [results, Tryz.results73, go_sem, c0, c1, c2, c3, c4, c5]) rfl (fun w5 hgr => ⟨⟨_, _, _, _, _, _, rfl⟩, below_src HA6.out.hb hgr (by omega)⟩)
  · have e1 : (st == 1) = false := by simpa using h1
    clear h1
    have HB := Lib.hid HA.out.hb
    clear HA
    go_enter Tryz.func73, Tryz.ntmps73
    go_wp2
    refine ⟨rfl, _, (by simp [results, Tryz.results73, go_sem]; exact ⟨rfl, rfl, rfl, rfl, rfl, rfl⟩), ⟨⟨_, _, _, _, _, _, rfl⟩, (box_two _ _).alloc (by simp; omega) _⟩⟩

theorem row2 {w : World} {g : Nat} {x0 x1 : Value} {T : TypeId} (h : w.heap[g]? = some (.cells #[x0, x1] T)) :
    (w.cell? ⟨g, 0, none⟩ = some x0 ∧ w.cell? ⟨g, 1, none⟩ = some x1) ∧ (w.frozen? ⟨g, 0, none⟩ = false ∧ w.frozen? ⟨g, 1, none⟩ = false) ∧ g < w.heap.size :=
  ⟨⟨cell_of_row w g 0 _ _ _ h, cell_of_row w g 1 _ _ _ h⟩, ⟨frozen_of_row w g 0 _ _ h, frozen_of_row w g 1 _ _ h⟩, (Array.getElem?_eq_some_iff.1 h).1⟩
theorem heap_four (w : World) (A B C D : Obj) : ((((w.alloc A).alloc B).alloc C).alloc D).heap[w.heap.size]? = some A ∧ ((((w.alloc A).alloc B).alloc C).alloc D).heap[w.heap.size + 1]? = some B ∧ ((((w.alloc A).alloc B).alloc C).alloc D).heap[w.heap.size + 1 + 1]? = some C ∧ ((((w.alloc A).alloc B).alloc C).alloc D).heap[w.heap.size + 1 + 1 + 1]? = some D := by
  obtain ⟨h1, h2, h3⟩ := heap_three w A B C
  have hb := (Below.refl (((w.alloc A).alloc B).alloc C).heap.size (((w.alloc A).alloc B).alloc C)).alloc (Nat.le_refl _) D
  refine ⟨row_below h1 hb, row_below h2 hb, row_below h3 hb, ?_⟩
  have := heap_alloc_new (((w.alloc A).alloc B).alloc C) D
  simpa using this
/-- where Step stands: the rollout at its block, the plan's row above it, the input's, the result's -/
structure StA (w W : World) (P : Pl) (vw : Value) (a b c x y z k n : Int) : Prop where
  row : W.heap[w.heap.size]? = some (rollO a b c x y z)
  inp : W.heap[w.heap.size + 1 + 1]? = some (.cells #[.int .i64 k, .int .i64 n] 84)
  pl : W.heap[w.heap.size + 1]? = some (.cells #[vw, .int .i64 P.ms, .int .i64 P.num, .int .i64 P.den, .int .i64 P.hold, .int .i64 P.win] 25)
  res : ∃ a b c x y z, W.heap[w.heap.size + 1 + 1 + 1]? = some (rollO a b c x y z)
  hb : Below w.heap.size w W
theorem StA.below {w W W' : World} {P : Pl} {vw : Value} {a b c x y z k n : Int} (h : StA w W P vw a b c x y z k n) (hb : Below W.heap.size W W') : StA w W' P vw a b c x y z k n :=
  ⟨row_below h.row hb, row_below h.inp hb, row_below h.pl hb, by obtain ⟨a, b, c, x, y, z, hr⟩ := h.res; exact ⟨_, _, _, _, _, _, row_below hr hb⟩, Below.self_trans h.hb hb⟩

theorem step_calls (P : Pl) (v : Value) (st sg he t er ag k n : Int) (w : World) (h : PlV w v P) :
    Calls Tryz.prog 48 #[.agg #[.int .i64 st, .int .i64 sg, .int .i64 he, .int .i64 t, .int .i64 er, .int .i64 ag], v, .agg #[.int .i64 k, .int .i64 n]] w fun e w' => IsRoll e ∧ Below w.heap.size w w' := by
  obtain ⟨vw, rfl, hr⟩ := id h
  have H4 := heap_four w (rollO st sg he t er ag) (.cells #[vw, .int .i64 P.ms, .int .i64 P.num, .int .i64 P.den, .int .i64 P.hold, .int .i64 P.win] 25) (.cells #[.int .i64 k, .int .i64 n] 84) (rollO 0 0 0 0 0 0)
  have HB := ((box_two (w1 := w) (rollO st sg he t er ag) (.cells #[vw, .int .i64 P.ms, .int .i64 P.num, .int .i64 P.den, .int .i64 P.hold, .int .i64 P.win] 25)).alloc (by simp; omega) (.cells #[.int .i64 k, .int .i64 n] 84)).alloc (by simp; omega) (rollO 0 0 0 0 0 0)
  have HA : StA w ((((w.alloc (rollO st sg he t er ag)).alloc (.cells #[vw, .int .i64 P.ms, .int .i64 P.num, .int .i64 P.den, .int .i64 P.hold, .int .i64 P.win] 25)).alloc (.cells #[.int .i64 k, .int .i64 n] 84)).alloc (rollO 0 0 0 0 0 0)) P vw st sg he t er ag k n := ⟨H4.1, H4.2.2.1, H4.2.1, ⟨_, _, _, _, _, _, H4.2.2.2⟩, HB⟩
  have HP := Lib.hid h
  clear H4 HB h hr
  unfold rollO at HA
  have HA := Lib.hid HA
  unfold Pl.agg at *
  obtain ⟨ws, ms, num, den, hold, win⟩ := P
  go_enter Tryz.func48, Tryz.ntmps48
  go_upto_region 1 with fail
  generalize ((((w.alloc (.cells #[.int .i64 st, .int .i64 sg, .int .i64 he, .int .i64 t, .int .i64 er, .int .i64 ag] 32)).alloc (.cells #[vw, .int .i64 ms, .int .i64 num, .int .i64 den, .int .i64 hold, .int .i64 win] 25)).alloc (.cells #[.int .i64 k, .int .i64 n] 84)).alloc (.cells #[.int .i64 0, .int .i64 0, .int .i64 0, .int .i64 0, .int .i64 0, .int .i64 0] 32)) = w1 at *
  have hrow := HA.out.row
  have hinp := HA.out.inp
  have hpl := HA.out.pl
  unfold rollO at hrow
  obtain ⟨⟨c0, c1, c2, c3, c4, c5⟩, -, -⟩ := row6 hrow
  obtain ⟨⟨p0, p1, p2, p3, p4, p5⟩, -, -⟩ := row6 hpl
  obtain ⟨⟨i0, i1⟩, -, -⟩ := row2 hinp
  have HP1 := Lib.hid (HP.out.below HA.out.hb)
  obtain ⟨vw2, hv2, hrd⟩ := HP.out.below HA.out.hb
  have hv3 : vw = vw2 := by simpa [Pl.agg] using hv2
  subst hv3
  obtain ⟨⟨aw, cw, rfl, -, -, -, -⟩, -⟩ := hrd
  clear hrow hinp hpl hv2 HP
  by_cases h1 : k = 1
  · subst h1
    go_wp2_with fail
    refine (tick_calls _ _ _ _ _ _ _ _ _ HP1.out).mono ?_
    rintro e w2 ⟨⟨a, b, c, x, y, z, rfl⟩, hb⟩
    have HA2 := Lib.hid (HA.out.below hb)
    clear HA hb HP1 c0 c1 c2 c3 c4 c5 p0 p1 p2 p3 p4 p5 i0 i1
    obtain ⟨r1, r2, r3, r4, r5, r6, hres⟩ := HA2.out.res
    unfold rollO at hres
    obtain ⟨⟨d0, d1, d2, d3, d4, d5⟩, ⟨e0, e1, e2, e3, e4, e5⟩, -⟩ := row6 hres
    have hres := Lib.hid hres
    go_wp2
    exact fin6g id hres.out (fun w2 c0 c1 c2 c3 c4 c5 => by simp [results, Tryz.results48, go_sem, c0, c1, c2, c3, c4, c5]) rfl (fun w5 hgr => ⟨⟨_, _, _, _, _, _, rfl⟩, below_src HA2.out.hb hgr (by omega)⟩)
  · have e1 : (k == 1) = false := by simpa using h1
    clear h1
    by_cases h2 : k = 2 ∨ k = 3
    · obtain ⟨fb, hfb⟩ : ∃ fb : Bool, (k == 3) = fb := ⟨_, rfl⟩
      rcases h2 with rfl | rfl
      all_goals
        clear e1 HP1
        go_wp2_with fail
        refine (observe_calls _ _ _ _ _ _ _ _).mono ?_
        rintro e w2 ⟨⟨a, b, c, x, y, z, rfl⟩, hb⟩
        have HA2 := Lib.hid (HA.out.below hb)
        clear HA hb c0 c1 c2 c3 c4 c5 p0 p1 p2 p3 p4 p5 i0 i1
        obtain ⟨r1, r2, r3, r4, r5, r6, hres⟩ := HA2.out.res
        unfold rollO at hres
        obtain ⟨⟨d0, d1, d2, d3, d4, d5⟩, ⟨e0, e1, e2, e3, e4, e5⟩, -⟩ := row6 hres
        have hres := Lib.hid hres
        go_wp2
        exact fin6g id hres.out (fun w2 c0 c1 c2 c3 c4 c5 => by simp [results, Tryz.results48, go_sem, c0, c1, c2, c3, c4, c5]) rfl (fun w5 hgr => ⟨⟨_, _, _, _, _, _, rfl⟩, below_src HA2.out.hb hgr (by omega)⟩)
    · have e2 : (k == 2) = false := by rw [beq_eq_false_iff_ne]; intro e; exact h2 (Or.inl e)
      have e3 : (k == 3) = false := by rw [beq_eq_false_iff_ne]; intro e; exact h2 (Or.inr e)
      clear h2 HP1
      by_cases h4 : k = 4
      · subst h4
        clear e1 e2 e3
        go_wp2_with fail
        refine (command_calls _ _ _ _ _ _ _ _).mono ?_
        rintro e w2 ⟨⟨a, b, c, x, y, z, er2, rfl⟩, hb⟩
        have HA2 := Lib.hid (HA.out.below hb)
        clear HA hb c0 c1 c2 c3 c4 c5 p0 p1 p2 p3 p4 p5 i0 i1
        go_upto_region 9 with fail
        have hx3 := (Below.refl w2.heap.size w2).alloc (Nat.le_refl _) (rollO a b c x y z)
        have K3 := heap_alloc_new w2 (rollO a b c x y z)
        have HA3 := Lib.hid (HA2.out.below hx3)
        unfold rollO at hx3 K3 HA3
        obtain ⟨⟨k0, k1, k2, k3, k4, k5⟩, -, -⟩ := row6 K3
        clear HA2 hx3 K3
        generalize w2.heap.size = g5 at *
        generalize w2.alloc (.cells #[.int .i64 a, .int .i64 b, .int .i64 c, .int .i64 x, .int .i64 y, .int .i64 z] 32) = w3 at *
        have hrow := HA3.out.row
        unfold rollO at hrow
        obtain ⟨⟨c0, c1, c2, c3, c4, c5⟩, -, -⟩ := row6 hrow
        obtain ⟨r1, r2, r3, r4, r5, r6, hres⟩ := HA3.out.res
        unfold rollO at hres
        obtain ⟨⟨d0, d1, d2, d3, d4, d5⟩, ⟨e0, e1, e2, e3, e4, e5⟩, -⟩ := row6 hres
        have hres := Lib.hid hres
        clear hrow
        cases her : (er2 == 0) with
        | true =>
          go_wp2
          exact fin6g id hres.out (fun w2 c0 c1 c2 c3 c4 c5 => by simp [results, Tryz.results48, go_sem, c0, c1, c2, c3, c4, c5]) rfl (fun w5 hgr => ⟨⟨_, _, _, _, _, _, rfl⟩, below_src HA3.out.hb hgr (by omega)⟩)
        | false =>
          go_wp2
          exact fin6g id hres.out (fun w2 c0 c1 c2 c3 c4 c5 => by simp [results, Tryz.results48, go_sem, c0, c1, c2, c3, c4, c5]) rfl (fun w5 hgr => ⟨⟨_, _, _, _, _, _, rfl⟩, below_src HA3.out.hb hgr (by omega)⟩)
      · have e4 : (k == 4) = false := by simpa using h4
        clear h4
        obtain ⟨r1, r2, r3, r4, r5, r6, hres⟩ := HA.out.res
        unfold rollO at hres
        obtain ⟨⟨d0, d1, d2, d3, d4, d5⟩, ⟨e0, e1, e2, e3, e4, e5⟩, -⟩ := row6 hres
        have hres := Lib.hid hres
        go_wp2
        exact fin6g id hres.out (fun w2 c0 c1 c2 c3 c4 c5 => by simp [results, Tryz.results48, go_sem, c0, c1, c2, c3, c4, c5]) rfl (fun w5 hgr => ⟨⟨_, _, _, _, _, _, rfl⟩, below_src HA.out.hb hgr (by omega)⟩)

/-- where Run stands: the plan's row, the result's, the rollout's -/
structure RnA (w W : World) (P : Pl) (vw : Value) : Prop where
  pl : W.heap[w.heap.size]? = some (.cells #[vw, .int .i64 P.ms, .int .i64 P.num, .int .i64 P.den, .int .i64 P.hold, .int .i64 P.win] 25)
  res : ∃ a b c x y z, W.heap[w.heap.size + 1]? = some (rollO a b c x y z)
  row : ∃ a b c x y z, W.heap[w.heap.size + 1 + 1]? = some (rollO a b c x y z)
  hb : Below w.heap.size w W
theorem RnA.below {w W W' : World} {P : Pl} {vw : Value} (h : RnA w W P vw) (hb : Below W.heap.size W W') : RnA w W' P vw :=
  ⟨row_below h.pl hb, by obtain ⟨a, b, c, x, y, z, hr⟩ := h.res; exact ⟨_, _, _, _, _, _, row_below hr hb⟩, by obtain ⟨a, b, c, x, y, z, hr⟩ := h.row; exact ⟨_, _, _, _, _, _, row_below hr hb⟩, Below.self_trans h.hb hb⟩
theorem RnA.put {w W W' : World} {P : Pl} {vw : Value} {a b c x y z : Int} (h : RnA w W P vw) (hg : W.grownBy W' (some (w.heap.size + 1 + 1))) (hr : W'.heap[w.heap.size + 1 + 1]? = some (rollO a b c x y z)) : RnA w W' P vw := by
  have hlt := h.pl
  refine ⟨grown_at hg h.pl (by omega), ?_, ⟨_, _, _, _, _, _, hr⟩, below_src h.hb hg (by omega)⟩
  obtain ⟨a, b, c, x, y, z, hr⟩ := h.res
  exact ⟨_, _, _, _, _, _, grown_at hg hr (by omega)⟩
/-- a list of inputs -/
def inpV (x : Int × Int) : List Value := [.int .i64 x.1, .int .i64 x.2]
def inpsV (l : List (Int × Int)) : List Value := l.flatMap inpV

theorem inpsV_length (l : List (Int × Int)) : (inpsV l).length = l.length * 2 := by
  induction l with
  | nil => rfl
  | cons f l ih => simp only [inpsV, List.flatMap_cons, List.length_append, List.length_cons] at ih ⊢; rw [ih]; simp [inpV]; omega
theorem inpsV_append (l m : List (Int × Int)) : inpsV (l ++ m) = inpsV l ++ inpsV m := List.flatMap_append
theorem inpsV_get (l : List (Int × Int)) (k : Nat) (h : k < l.length) : (inpsV l)[2 * k]? = some (.int .i64 l[k].1) ∧ (inpsV l)[2 * k + 1]? = some (.int .i64 l[k].2) := by
  induction l generalizing k with
  | nil => cases h
  | cons f l ih =>
    cases k with
    | zero => exact ⟨rfl, rfl⟩
    | succ k =>
      have := ih k (by simpa using h)
      have e1 : 2 * (k + 1) = 2 * k + 1 + 1 := by omega
      have e2 : 2 * (k + 1) + 1 = 2 * k + 1 + 1 + 1 := by omega
      rw [e1]
      exact ⟨by simpa [inpsV, inpV] using this.1, by simpa [inpsV, inpV] using this.2⟩
theorem RdC.inp {w : World} {a : Option Addr} {l : List (Int × Int)} (h : RdC w a (inpsV l)) (k : Nat) (hk : k < l.length) :
    ∃ b off, a = some ⟨b, off, none⟩ ∧ w.cell? ⟨b, off + k * 2, none⟩ = some (.int .i64 l[k].1) ∧ w.cell? ⟨b, off + k * 2 + 1, none⟩ = some (.int .i64 l[k].2) := by
  have hl := inpsV_length l
  obtain ⟨b, off, ha, h1⟩ := h (2 * k) (by omega)
  obtain ⟨b2, off2, ha2, h2⟩ := h (2 * k + 1) (by omega)
  rw [ha] at ha2
  injection ha2 with e
  injection e with e1 e2
  subst e1 e2
  obtain ⟨g1, g2⟩ := inpsV_get l k hk
  rw [List.getElem?_eq_getElem (by omega)] at g1 g2
  refine ⟨b, off, ha, ?_, ?_⟩
  · rw [Nat.mul_comm k 2, h1, g1]
  · rw [Nat.mul_comm k 2, Nat.add_assoc, h2, g2]
def RdN (w : World) (v : Value) (l : List (Int × Int)) : Prop := Rd w v l.length (inpsV l)

theorem of_drewR {w w1 : World} (h : Below w.drew.heap.size w.drew w1) : Below w.heap.size w w1 := ((Below.refl _ _).drew).trans h
theorem arr21 (xs : Array Value) (h : xs.size = 21) : ∃ x0 x1 x2 x3 x4 x5 x6 x7 x8 x9 x10 x11 x12 x13 x14 x15 x16 x17 x18 x19 x20, xs = #[x0, x1, x2, x3, x4, x5, x6, x7, x8, x9, x10, x11, x12, x13, x14, x15, x16, x17, x18, x19, x20] := by
  obtain ⟨l⟩ := xs
  match l, h with
  | x0 :: x1 :: x2 :: x3 :: x4 :: x5 :: x6 :: x7 :: x8 :: x9 :: x10 :: x11 :: x12 :: x13 :: x14 :: x15 :: x16 :: x17 :: x18 :: x19 :: x20 :: [], _ => exact ⟨x0, x1, x2, x3, x4, x5, x6, x7, x8, x9, x10, x11, x12, x13, x14, x15, x16, x17, x18, x19, x20, rfl⟩
def IsR (W : World) (g : Nat) : Prop := ∃ a b c x y z, W.heap[g]? = some (rollO a b c x y z)
def LeR (g : Nat) (x y : World) : Prop := x.grownBy y (some g) ∧ (IsR x g → IsR y g)
theorem leR_trans {g : Nat} : ∀ x y z : World, LeR g x y → LeR g y z → LeR g x z := fun x y z h1 h2 => ⟨grownBy_trans h1.1 h2.1, fun h => h2.2 (h1.2 h)⟩
theorem leR_of {g : Nat} : ∀ x y : World, Below x.heap.size x y → LeR g x y := fun x y h => ⟨grownBy_below h _, fun ⟨a, b, c, p, q, r, hr⟩ => ⟨a, b, c, p, q, r, row_below hr h⟩⟩
theorem isR_set6 {W : World} {g : Nat} {a b c x y z : Int} (h : W.heap[g]? = some (rollO a b c x y z)) (q1 q2 q3 q4 q5 q6 : Int) : IsR ((((((W.setCell ⟨g, 0, none⟩ (.int .i64 q1)).setCell ⟨g, 1, none⟩ (.int .i64 q2)).setCell ⟨g, 2, none⟩ (.int .i64 q3)).setCell ⟨g, 3, none⟩ (.int .i64 q4)).setCell ⟨g, 4, none⟩ (.int .i64 q5)).setCell ⟨g, 5, none⟩ (.int .i64 q6)) g := by
  have h1 := (heap_setCell_same W g 0 _ _ (.int .i64 q1) h).trans (show _ = some (rollO q1 b c x y z) by simp [rollO])
  have h2 := (heap_setCell_same _ g 1 _ _ (.int .i64 q2) h1).trans (show _ = some (rollO q1 q2 c x y z) by simp [rollO])
  have h3 := (heap_setCell_same _ g 2 _ _ (.int .i64 q3) h2).trans (show _ = some (rollO q1 q2 q3 x y z) by simp [rollO])
  have h4 := (heap_setCell_same _ g 3 _ _ (.int .i64 q4) h3).trans (show _ = some (rollO q1 q2 q3 q4 y z) by simp [rollO])
  have h5 := (heap_setCell_same _ g 4 _ _ (.int .i64 q5) h4).trans (show _ = some (rollO q1 q2 q3 q4 q5 z) by simp [rollO])
  have h6 := (heap_setCell_same _ g 5 _ _ (.int .i64 q6) h5).trans (show _ = some (rollO q1 q2 q3 q4 q5 q6) by simp [rollO])
  exact ⟨_, _, _, _, _, _, h6⟩
theorem leR_set6 {W : World} {g : Nat} {a b c x y z : Int} (h : W.heap[g]? = some (rollO a b c x y z)) (q1 q2 q3 q4 q5 q6 : Int) : LeR g W ((((((W.setCell ⟨g, 0, none⟩ (.int .i64 q1)).setCell ⟨g, 1, none⟩ (.int .i64 q2)).setCell ⟨g, 2, none⟩ (.int .i64 q3)).setCell ⟨g, 3, none⟩ (.int .i64 q4)).setCell ⟨g, 4, none⟩ (.int .i64 q5)).setCell ⟨g, 5, none⟩ (.int .i64 q6)) :=
  ⟨grownBy_trans (grownBy_trans (grownBy_trans (grownBy_trans (grownBy_trans (grown_set _ g 0 _) (grown_set _ g 1 _)) (grown_set _ g 2 _)) (grown_set _ g 3 _)) (grown_set _ g 4 _)) (grown_set _ g 5 _), fun _ => isR_set6 h q1 q2 q3 q4 q5 q6⟩
theorem RnA.leR {w W W' : World} {P : Pl} {vw : Value} (h : RnA w W P vw) (hl : LeR (w.heap.size + 1 + 1) W W') (hi : IsR W' (w.heap.size + 1 + 1)) : RnA w W' P vw := by
  obtain ⟨a, b, c, x, y, z, hr⟩ := hi
  exact h.put hl.1 hr
/-- what the operations of Run's round hand back -/
def spR (roll plan sl : Value) (k : Int) (b o : Nat) (x : Int × Int) (g : Nat) (i : Nat) (v : Value) (W : World) : Prop :=
  match i with
  | 0 => v = roll
  | 1 => v = plan
  | 2 => v = sl
  | 3 => v = .int .i64 k
  | 4 => v = .pointer (some ⟨b, o, none⟩)
  | 5 => v = .agg #[.int .i64 x.1, .int .i64 x.2]
  | 6 => ∃ q1 q2 q3 q4 q5 q6 : Int, v = .agg #[.int .i64 q1, .int .i64 q2, .int .i64 q3, .int .i64 q4, .int .i64 q5, .int .i64 q6]
  | 7 => IsR W g
  | _ => True
theorem spR_mono {roll plan sl : Value} {k : Int} {b o : Nat} {x : Int × Int} {g : Nat} : ∀ (i : Nat) (v : Value) (X Y : World), LeR g X Y → spR roll plan sl k b o x g i v X → spR roll plan sl k b o x g i v Y := by
  intro i v X Y hb h
  match i, h with
  | 0, h => exact h
  | 1, h => exact h
  | 2, h => exact h
  | 3, h => exact h
  | 4, h => exact h
  | 5, h => exact h
  | 6, h => exact h
  | 7, h => exact hb.2 h
  | i + 8, h => trivial
theorem run_calls (P : Pl) (v va : Value) (l : List (Int × Int)) (w : World) (h : PlV w v P) (Ha : RdN w va l) :
    Calls Tryz.prog 21 #[v, va] w fun e w' => IsRoll e ∧ Below w.heap.size w w' := by
  obtain ⟨a, cap, rfl, h1, h2, h3, hc⟩ := id Ha
  have hlm : l.length ≤ 9223372036854775807 := by unfold maxLen at h2; omega
  obtain ⟨vw, rfl, hr⟩ := id h
  have H3 := heap_three w (.cells #[vw, .int .i64 P.ms, .int .i64 P.num, .int .i64 P.den, .int .i64 P.hold, .int .i64 P.win] 25) (rollO 0 0 0 0 0 0) (rollO 0 0 0 0 0 0)
  have HB := (box_two (w1 := w) (.cells #[vw, .int .i64 P.ms, .int .i64 P.num, .int .i64 P.den, .int .i64 P.hold, .int .i64 P.win] 25) (rollO 0 0 0 0 0 0)).alloc (by simp; omega) (rollO 0 0 0 0 0 0)
  have HA : RnA w (((w.alloc (.cells #[vw, .int .i64 P.ms, .int .i64 P.num, .int .i64 P.den, .int .i64 P.hold, .int .i64 P.win] 25)).alloc (rollO 0 0 0 0 0 0)).alloc (rollO 0 0 0 0 0 0)) P vw := ⟨H3.1, ⟨_, _, _, _, _, _, H3.2.1⟩, ⟨_, _, _, _, _, _, H3.2.2⟩, HB⟩
  have HP := Lib.hid h
  have HL := Lib.hid hc
  clear H3 HB h Ha hc
  unfold rollO at HA
  have HA := Lib.hid HA
  unfold Pl.agg at *
  obtain ⟨ws, ms, num, den, hold, win⟩ := P
  obtain ⟨⟨aw, cw, rfl, -, -, -, -⟩, -⟩ := hr
  go_enter Tryz.func21, Tryz.ntmps21
  go_wp2
  generalize (((w.alloc (.cells #[.slice aw ws.length cw, .int .i64 ms, .int .i64 num, .int .i64 den, .int .i64 hold, .int .i64 win] 25)).alloc (.cells #[.int .i64 0, .int .i64 0, .int .i64 0, .int .i64 0, .int .i64 0, .int .i64 0] 32)).alloc (.cells #[.int .i64 0, .int .i64 0, .int .i64 0, .int .i64 0, .int .i64 0, .int .i64 0] 32)) = w1 at *
  go_loopw [6] (fun s6 wr => ∃ k : Nat, k ≤ l.length ∧ s6 = .int .i64 (k : Int) ∧ RnA w wr ⟨ws, ms, num, den, hold, win⟩ (.slice aw ws.length cw)) (fun i _ => l.length - (intOf i).toNat)
  case atStart => exact ⟨0, Nat.zero_le _, rfl, HA.out⟩
  case round =>
    clear HA
    obtain ⟨k, hk, rfl, HA⟩ := hrel
    have HA := Lib.hid HA
    by_cases hlt : k < l.length
    · have hltI : (k : Int) < (l.length : Int) := by omega
      obtain ⟨b, off, rfl, i0, i1⟩ := RdC.inp (HL.out.below HA.out.hb) k hlt
      generalize l[k] = x at *
      have hpl := HA.out.pl
      obtain ⟨r1, r2, r3, r4, r5, r6, hrow⟩ := HA.out.row
      have HR := Lib.hid hrow
      unfold rollO at hrow
      obtain ⟨⟨c0, c1, c2, c3, c4, c5⟩, -, -⟩ := row6 hrow
      obtain ⟨⟨p0, p1, p2, p3, p4, p5⟩, -, -⟩ := row6 hpl
      have HC := Lib.hid (fun st sg he t er ag => step_calls _ _ st sg he t er ag x.1 x.2 wr.drew (HP.out.below (HA.out.hb.drew)))
      clear hrow hpl
      have HH := Lib.hid HA
      clear HA
      go_wp2
      have HCs := Lib.hid (fun W (hb : Below w.heap.size w W) st sg he t er ag => step_calls _ _ st sg he t er ag x.1 x.2 W (HP.out.below hb))
      clear HC
      refine wp_region_specM_lit (LeS := fun x y => Below x.heap.size x y) (Le := LeR (w.heap.size + 1 + 1)) (wr := fun i => i == 7) (Sp := spR (.agg #[.int .i64 r1, .int .i64 r2, .int .i64 r3, .int .i64 r4, .int .i64 r5, .int .i64 r6]) (.agg #[.slice aw ws.length cw, .int .i64 ms, .int .i64 num, .int .i64 den, .int .i64 hold, .int .i64 win]) (.slice (some ⟨b, off, none⟩) l.length cap) (k : Int) b (off + k * 2) x (w.heap.size + 1 + 1)) rfl (by kernel_rfl) leR_trans spR_mono (fun x => Below.refl _ _) leR_of (fun x y z h1 h2 => Below.self_trans h1 h2) ⟨?_, ?_, ?_, ?_, ?_, ?_, ?_, ?_, trivial⟩ ?_
      · refine stepOkM_val rfl fun a w' hle hls hk hq hp => ⟨rfl, _, w', ?_, Below.refl _ _, rfl⟩
        have g0 := ev (kept_eval (s := 5) hk rfl)
        simp at g0
        have hb2 := of_drewR (hls (by kernel_rfl))
        have e0 := cell_below hb2 c0
        have e1 := cell_below hb2 c1
        have e2 := cell_below hb2 c2
        have e3 := cell_below hb2 c3
        have e4 := cell_below hb2 c4
        have e5 := cell_below hb2 c5
        clear hp hk hq hle hls c0 c1 c2 c3 c4 c5 hb2
        simp [execOp, go_sem, g0, e0, e1, e2, e3, e4, e5]
      · refine stepOkM_val rfl fun a w' hle hls hk hq hp => ⟨rfl, _, w', ?_, Below.refl _ _, rfl⟩
        have g0 := ev (kept_eval (s := 2) hk rfl)
        simp at g0
        have hb2 := of_drewR (hls (by kernel_rfl))
        have e0 := cell_below hb2 p0
        have e1 := cell_below hb2 p1
        have e2 := cell_below hb2 p2
        have e3 := cell_below hb2 p3
        have e4 := cell_below hb2 p4
        have e5 := cell_below hb2 p5
        clear hp hk hq hle hls c0 c1 c2 c3 c4 c5 p0 p1 p2 p3 p4 p5 hb2
        simp [execOp, go_sem, g0, e0, e1, e2, e3, e4, e5]
      · refine stepOkM_val rfl fun a w' hle hls hk hq hp => ⟨rfl, _, w', ?_, Below.refl _ _, rfl⟩
        have g0 := ev (kept_eval (s := 1) hk rfl)
        simp at g0
        clear hp hk hq hle hls
        simp [execOp, go_sem, g0]
      · refine stepOkM_val rfl fun a w' hle hls hk hq hp => ⟨rfl, _, w', ?_, Below.refl _ _, rfl⟩
        have g0 := ev (kept_eval (s := 6) hk rfl)
        simp at g0
        clear hp hk hq hle hls
        simp [execOp, go_sem, g0]
      · refine stepOkM_val rfl fun a w' hle hls hk hq hp => ⟨rfl, _, w', ?_, Below.refl _ _, rfl⟩
        have g0 := ev (show a.eval (.tmp 15) = _ from hp 2 _ rfl rfl)
        have g1 := ev (show a.eval (.tmp 16) = _ from hp 3 _ rfl rfl)
        clear hp hk hq hle hls
        simp [execOp, go_sem, g0, g1, hltI]
      · refine stepOkM_val rfl fun a w' hle hls hk hq hp => ⟨rfl, _, w', ?_, Below.refl _ _, rfl⟩
        have g0 := ev (show a.eval (.tmp 17) = _ from hp 4 _ rfl rfl)
        have hb2 := of_drewR (hls (by kernel_rfl))
        have e0 := cell_below hb2 i0
        have e1 := cell_below hb2 i1
        clear hp hk hq hle hls i0 i1 hb2
        simp [execOp, go_sem, g0, e0, e1]
      · refine stepOkM_call rfl fun a w' hle hls hk hq hp => ⟨rfl, _, _, ?_, (HCs.out w' (Below.self_trans HH.out.hb (of_drewR (hls (by kernel_rfl)))) r1 r2 r3 r4 r5 r6).mono fun e w'' ⟨⟨q1, q2, q3, q4, q5, q6, he⟩, hb⟩ => ⟨_, he, hb, ⟨q1, q2, q3, q4, q5, q6, rfl⟩⟩⟩
        have g0 := ev (show a.eval (.tmp 13) = _ from hp 0 _ rfl rfl)
        have g1 := ev (show a.eval (.tmp 14) = _ from hp 1 _ rfl rfl)
        have g2 := ev (show a.eval (.tmp 18) = _ from hp 5 _ rfl rfl)
        clear hp hk hq hle hls
        simp [execOp, go_sem, g0, g1, g2]
      · refine stepOkM_doW rfl fun a w' hle hls hk hq hp => ?_
        have g0 := ev (kept_eval (s := 5) hk rfl)
        simp at g0
        obtain ⟨q1, q2, q3, q4, q5, q6, hq6⟩ := (show ∃ q1 q2 q3 q4 q5 q6 : Int, a.eval (.tmp 19) = .agg #[.int .i64 q1, .int .i64 q2, .int .i64 q3, .int .i64 q4, .int .i64 q5, .int .i64 q6] from hp 6 _ rfl rfl)
        have g1 := ev hq6
        have hb2 := of_drewR (hls (by kernel_rfl))
        have hrow2 := row_below HR.out hb2
        have HR2 := Lib.hid hrow2
        unfold rollO at hrow2
        obtain ⟨⟨d0, d1, d2, d3, d4, d5⟩, ⟨f0, f1, f2, f3, f4, f5⟩, -⟩ := row6 hrow2
        refine ⟨rfl, ((((((w'.setCell ⟨w.heap.size + 1 + 1, 0, none⟩ (.int .i64 q1)).setCell ⟨w.heap.size + 1 + 1, 1, none⟩ (.int .i64 q2)).setCell ⟨w.heap.size + 1 + 1, 2, none⟩ (.int .i64 q3)).setCell ⟨w.heap.size + 1 + 1, 3, none⟩ (.int .i64 q4)).setCell ⟨w.heap.size + 1 + 1, 4, none⟩ (.int .i64 q5)).setCell ⟨w.heap.size + 1 + 1, 5, none⟩ (.int .i64 q6)), ?_, leR_set6 HR2.out q1 q2 q3 q4 q5 q6, isR_set6 HR2.out q1 q2 q3 q4 q5 q6⟩
        clear hp hk hq hle hls c0 c1 c2 c3 c4 c5 hb2 hrow2
        simp [execOp, go_sem, g0, g1, d0, d1, d2, d3, d4, d5, f0, f1, f2, f3, f4, f5]
      · intro a w' hle hk hp
        obtain ⟨tm, df⟩ := a
        obtain ⟨x0, x1, x2, x3, x4, x5, x6, x7, x8, x9, x10, x11, x12, x13, x14, x15, x16, x17, x18, x19, x20, rfl⟩ := arr21 tm hk.2.1
        have q0 : x0 = .agg #[.slice aw ws.length cw, .int .i64 ms, .int .i64 num, .int .i64 den, .int .i64 hold, .int .i64 win] := hk.2.2 0 rfl
        have q1 : x1 = .slice (some ⟨b, off, none⟩) l.length cap := hk.2.2 1 rfl
        have q2 : x2 = .pointer (some ⟨w.heap.size, 0, none⟩) := hk.2.2 2 rfl
        have q3 : x3 = undef := hk.2.2 3 rfl
        have q4 : x4 = .pointer (some ⟨w.heap.size + 1, 0, none⟩) := hk.2.2 4 rfl
        have q5 : x5 = .pointer (some ⟨w.heap.size + 1 + 1, 0, none⟩) := hk.2.2 5 rfl
        have q6 : x6 = .int .i64 (k : Int) := hk.2.2 6 rfl
        have q20 : x20 = undef := hk.2.2 20 rfl
        have qd : df = [] := hk.1
        have hI := (show IsR w' (w.heap.size + 1 + 1) from hp 7 _ rfl)
        have HN := Lib.hid (HH.out.leR (leR_trans _ _ _ (leR_of _ _ ((Below.refl _ _).drew)) hle) hI)
        clear hp hle hI
        subst q0 q1 q2 q3 q4 q5 q6 q20 qd
        have HW := Lib.hid (show RnA w w' ⟨ws, ms, num, den, hold, win⟩ (.slice aw ws.length cw) from HN.out)
        clear HN HH HR HCs HP HL hk h1 h2 h3 i0 i1 c0 c1 c2 c3 c4 c5 p0 p1 p2 p3 p4 p5
        apply_assumption
        go_wp2
        go_roundw
        case rel => exact ⟨k + 1, by omega, by go_num, HW.out⟩
        case measure => simp [intOf]; omega
    · have hltI : ¬ (k : Int) < (l.length : Int) := by omega
      obtain ⟨r1, r2, r3, r4, r5, r6, hrow⟩ := HA.out.row
      obtain ⟨q1, q2, q3, q4, q5, q6, hres⟩ := HA.out.res
      unfold rollO at hrow hres
      obtain ⟨⟨c0, c1, c2, c3, c4, c5⟩, -, -⟩ := row6 hrow
      obtain ⟨⟨d0, d1, d2, d3, d4, d5⟩, ⟨e0, e1, e2, e3, e4, e5⟩, -⟩ := row6 hres
      have hres := Lib.hid hres
      have HB := Lib.hid HA.out.hb
      clear hrow HA
      go_wp2
      exact fin6g id hres.out (fun w2 c0 c1 c2 c3 c4 c5 => by simp [results, Tryz.results21, go_sem, c0, c1, c2, c3, c4, c5]) rfl (fun w5 hgr => ⟨⟨_, _, _, _, _, _, rfl⟩, below_src HB.out hgr (by omega)⟩)
end Go.Proofs.YtfmokccoilgpmaaGreatDoor
