/- the reference's rollout: what Run hands back are six ints. -/
import Derived.Test.YtfmokccoilgpmaaGreatDoorPC
import Derived.Test.YtfmokccoilgpmaaGreatDoorChoose
import Derived.Test.YtfmokccoilgpmaaGreatDoorSrcR
import Derived.Deep.DeepCutAuto
import Derived.Deep.CutBlock
namespace Go.Proofs.YtfmokccoilgpmaaGreatDoor
open Go.RowKit Go.Own
set_option linter.unusedVariables false
set_option linter.unusedSimpArgs false
set_option maxHeartbeats 4000000
set_option maxRecDepth 20000

def IsInt (e : Ending) : Prop := ∃ k : Int, e = .returned (.int .i64 k)
def IsWin (e : Ending) : Prop := ∃ x y z : Int, e = .returned (.agg #[.int .i64 x, .int .i64 y, .int .i64 z])
def IsWinB (e : Ending) : Prop := ∃ x y z : Int, ∃ b : Bool, e = .returned (.tuple #[.agg #[.int .i64 x, .int .i64 y, .int .i64 z], .bool b])
def IsRoll (e : Ending) : Prop := ∃ a b c x y z : Int, e = .returned (.agg #[.int .i64 a, .int .i64 b, .int .i64 c, .int .i64 x, .int .i64 y, .int .i64 z])
def IsRollE (e : Ending) : Prop := ∃ a b c x y z k : Int, e = .returned (.tuple #[.agg #[.int .i64 a, .int .i64 b, .int .i64 c, .int .i64 x, .int .i64 y, .int .i64 z], .int .i64 k])

theorem heap_two' (w : World) (A B : Obj) : ((w.alloc A).alloc B).heap[w.heap.size]? = some A ∧ ((w.alloc A).alloc B).heap[w.heap.size + 1]? = some B := by
  refine ⟨?_, by have := heap_alloc_new (w.alloc A) B; rwa [World.size_alloc] at this⟩
  exact row_below (heap_alloc_new w A) ((Below.refl _ _).alloc (Nat.le_refl _) B)
theorem tickW_calls (t er ag len : Int) (w : World) :
    Calls Tryz.prog 93 #[.agg #[.int .i64 t, .int .i64 er, .int .i64 ag], .int .i64 len] w fun e w' => IsWinB e ∧ Below w.heap.size w w' := by
  go_enter Tryz.func93, Tryz.ntmps93
  go_wp2
  all_goals (refine ⟨rfl, _, (by simp [results, Tryz.results93, go_sem]; exact ⟨⟨rfl, rfl, rfl⟩, rfl⟩), ⟨⟨_, _, _, _, rfl⟩, ?_⟩⟩; exact ((Below.refl _ _).alloc (Nat.le_refl _) _).alloc (by simp) _)

theorem verdict_calls (P : Pl) (v : Value) (t er ag : Int) (w : World) (h : PlV w v P) :
    Calls Tryz.prog 94 #[v, .agg #[.int .i64 t, .int .i64 er, .int .i64 ag]] w fun e w' => IsInt e ∧ Below w.heap.size w w' := by
  obtain ⟨vw, rfl, hr⟩ := id h
  have HB := box_two (w1 := w) (.cells #[vw, .int .i64 P.ms, .int .i64 P.num, .int .i64 P.den, .int .i64 P.hold, .int .i64 P.win] 25) (.cells #[.int .i64 t, .int .i64 er, .int .i64 ag] 30)
  have H2 := heap_two' w (.cells #[vw, .int .i64 P.ms, .int .i64 P.num, .int .i64 P.den, .int .i64 P.hold, .int .i64 P.win] 25) (.cells #[.int .i64 t, .int .i64 er, .int .i64 ag] 30)
  have HC := Lib.hid (refPlan_calls P _ _ (h.below HB))
  unfold Pl.agg at *
  generalize planE P = pe at *
  clear h hr
  go_enter Tryz.func94, Tryz.ntmps94
  go_wp2_with fail
  generalize ((w.alloc (.cells #[vw, .int .i64 P.ms, .int .i64 P.num, .int .i64 P.den, .int .i64 P.hold, .int .i64 P.win] 25)).alloc (.cells #[.int .i64 t, .int .i64 er, .int .i64 ag] 30)) = w1 at *
  refine HC.out.mono ?_
  rintro e w2 ⟨rfl, hb⟩
  obtain ⟨⟨c0, c1, c2, c3, c4, c5⟩, -, -⟩ := row6 (row_below H2.1 hb)
  obtain ⟨⟨d0, d1, d2⟩, -, -⟩ := row3 (row_below H2.2 hb)
  have HB2 := Lib.hid (Below.self_trans HB hb)
  clear HB HC hb H2
  go_wp2
  all_goals (go_ret; exact ⟨⟨_, rfl⟩, HB2.out⟩)

theorem radd_calls (va : Value) (l : List Int) (m : Int) (w : World) (Ha : Rd w va l.length (intsV l)) :
    Calls Tryz.prog 115 #[.int .i64 m, va] w fun e w' => IsInt e ∧ w = w' := by
  obtain ⟨a, cap, rfl, h1, h2, h3, hc⟩ := Ha
  have hlm : l.length ≤ 9223372036854775807 := by unfold maxLen at h2; omega
  have HC := Lib.hid hc
  clear hc
  go_enter Tryz.func115, Tryz.ntmps115
  by_cases hm : m < 0
  · go_wp2
    go_ret
    exact ⟨⟨_, rfl⟩, rfl⟩
  · go_wp2
    go_loopw [5, 6] (fun s5 s6 wr => ∃ (n : Int) (k : Nat), k ≤ l.length ∧ s5 = .int .i64 n ∧ s6 = .int .i64 (k : Int) ∧ w = wr) (fun _ i _ => l.length - (intOf i).toNat)
    case atStart => exact ⟨0, 0, Nat.zero_le _, rfl, rfl, rfl⟩
    case round =>
      obtain ⟨n, k, hk, rfl, rfl, rfl⟩ := hrel
      by_cases hlt : k < l.length
      · have hltI : (k : Int) < (l.length : Int) := by omega
        obtain ⟨b, off, rfl, d0⟩ := rdc_int HC.out k hlt
        generalize l[k] = x at *
        go_wp2
        · go_ret
          exact ⟨⟨_, rfl⟩, rfl⟩
        · go_roundw
          case rel => exact ⟨_, k + 1, by omega, rfl, rfl, trivial⟩
          case measure => simp [intOf]; omega
      · have hltI : ¬ (k : Int) < (l.length : Int) := by omega
        go_wp2
        go_ret
        exact ⟨⟨_, rfl⟩, rfl⟩

theorem rcount_calls (n : Int) (w : World) : Calls Tryz.prog 114 #[.int .i64 n] w fun e w' => IsInt e ∧ Below w.heap.size w w' := by
  have HC := Lib.hid (radd_calls (.slice (some ⟨w.heap.size, 0, none⟩) 2 2) [n, 1] 1000000000 (w.alloc (.cells #[.int .i64 n, .int .i64 1] 3)) ⟨_, 2, rfl, Nat.le_refl _, by simp [maxLen], by simp, RdC_new w (intsV [n, 1]) _ (0, 0)⟩)
  have HB := Lib.hid ((Below.refl w.heap.size w).alloc (Nat.le_refl _) (.cells #[.int .i64 n, .int .i64 1] 3))
  go_enter Tryz.func114, Tryz.ntmps114
  go_wp2_with fail
  refine HC.out.mono ?_
  rintro e w1 ⟨⟨k, rfl⟩, rfl⟩
  go_wp2
  go_ret
  exact ⟨⟨_, rfl⟩, HB.out⟩

/-- where Sample stands -/
structure SmA (w W : World) (a b c : Int) : Prop where
  row : W.heap[w.heap.size]? = some (.cells #[.int .i64 a, .int .i64 b, .int .i64 c] 30)
  res : W.heap[w.heap.size + 1]? = some (.cells #[.int .i64 0, .int .i64 0, .int .i64 0] 30)
  hb : Below w.heap.size w W
theorem SmA.below {w W W' : World} {a b c : Int} (h : SmA w W a b c) (hb : Below W.heap.size W W') : SmA w W' a b c :=
  ⟨row_below h.row hb, row_below h.res hb, Below.self_trans h.hb hb⟩
theorem SmA.set0 {w W : World} {a b c : Int} (h : SmA w W a b c) (x : Int) : SmA w (W.setCell ⟨w.heap.size, 0, none⟩ (.int .i64 x)) x b c :=
  ⟨(heap_setCell_same W _ 0 _ _ _ h.row).trans (by simp), ((grown_set W w.heap.size 0 (.int .i64 x)).block _ (Array.getElem?_eq_some_iff.1 h.res).1 (by intro e; have := Option.some.inj e; omega)).trans h.res, h.hb.setCell (p := ⟨w.heap.size, 0, none⟩) (Nat.le_refl _) _⟩
theorem SmA.set1 {w W : World} {a b c : Int} (h : SmA w W a b c) (x : Int) : SmA w (W.setCell ⟨w.heap.size, 1, none⟩ (.int .i64 x)) a x c :=
  ⟨(heap_setCell_same W _ 1 _ _ _ h.row).trans (by simp), ((grown_set W w.heap.size 1 (.int .i64 x)).block _ (Array.getElem?_eq_some_iff.1 h.res).1 (by intro e; have := Option.some.inj e; omega)).trans h.res, h.hb.setCell (p := ⟨w.heap.size, 1, none⟩) (Nat.le_refl _) _⟩

theorem sample_calls (t er ag : Int) (failed : Bool) (w : World) :
    Calls Tryz.prog 95 #[.agg #[.int .i64 t, .int .i64 er, .int .i64 ag], .bool failed] w fun e w' => IsWin e ∧ Below w.heap.size w w' := by
  have H2 := heap_two' w (.cells #[.int .i64 t, .int .i64 er, .int .i64 ag] 30) (.cells #[.int .i64 0, .int .i64 0, .int .i64 0] 30)
  have HA : Hid (SmA w ((w.alloc (.cells #[.int .i64 t, .int .i64 er, .int .i64 ag] 30)).alloc (.cells #[.int .i64 0, .int .i64 0, .int .i64 0] 30)) t er ag) := Lib.hid ⟨H2.1, H2.2, box_two _ _⟩
  clear H2
  go_enter Tryz.func95, Tryz.ntmps95
  go_wp2_with fail
  generalize ((w.alloc (.cells #[.int .i64 t, .int .i64 er, .int .i64 ag] 30)).alloc (.cells #[.int .i64 0, .int .i64 0, .int .i64 0] 30)) = w1 at *
  refine (rcount_calls _ _).mono ?_
  rintro e w2 ⟨⟨k, rfl⟩, hb⟩
  have HA2 := Lib.hid (HA.out.below hb)
  clear HA hb
  obtain ⟨⟨c0, c1, c2⟩, ⟨f0, f1, f2⟩, -⟩ := row3 HA2.out.row
  go_upto_region 2 with fail
  have HA3 := Lib.hid (HA2.out.set0 k)
  clear HA2 c0 c1 c2 f0 f1 f2
  generalize w2.setCell ⟨w.heap.size, 0, none⟩ (.int .i64 k) = w3 at *
  obtain ⟨⟨c0, c1, c2⟩, ⟨f0, f1, f2⟩, -⟩ := row3 HA3.out.row
  cases failed with
  | true =>
    go_wp2_with fail
    refine (rcount_calls _ _).mono ?_
    rintro e w4 ⟨⟨k2, rfl⟩, hb⟩
    have HA4 := Lib.hid (HA3.out.below hb)
    clear HA3 hb c0 c1 c2 f0 f1 f2
    obtain ⟨⟨c0, c1, c2⟩, ⟨f0, f1, f2⟩, -⟩ := row3 HA4.out.row
    go_upto_region 5 with fail
    have HA5 := Lib.hid (HA4.out.set1 k2)
    clear HA4 c0 c1 c2 f0 f1 f2
    generalize w4.setCell ⟨w.heap.size, 1, none⟩ (.int .i64 k2) = w5 at *
    obtain ⟨⟨c0, c1, c2⟩, -, -⟩ := row3 HA5.out.row
    obtain ⟨⟨d0, d1, d2⟩, ⟨e0, e1, e2⟩, -⟩ := row3 HA5.out.res
    go_wp2
    exact fin3g id HA5.out.res (fun w2 c0 c1 c2 => by simp [results, Tryz.results95, go_sem, c0, c1, c2]) rfl (fun w5 hgr => ⟨⟨_, _, _, rfl⟩, below_src HA5.out.hb hgr (by omega)⟩)
  | false =>
    have HC := Lib.hid (radd_calls (.slice (some ⟨w3.heap.size, 0, none⟩) 1 1) [er] 1000000000 (w3.alloc (.cells #[.int .i64 er] 3)) ⟨_, 1, rfl, Nat.le_refl _, by simp [maxLen], by simp, RdC_new w3 (intsV [er]) _ (0, 0)⟩)
    go_wp2_with fail
    refine HC.out.mono ?_
    rintro e w4 ⟨⟨k2, rfl⟩, rfl⟩
    have HA4 := Lib.hid (HA3.out.below ((Below.refl _ _).alloc (Nat.le_refl _) (.cells #[.int .i64 er] 3)))
    clear HA3 HC c0 c1 c2 f0 f1 f2
    generalize (w3.alloc (.cells #[.int .i64 er] 3)) = w4 at *
    obtain ⟨⟨c0, c1, c2⟩, ⟨f0, f1, f2⟩, -⟩ := row3 HA4.out.row
    go_upto_region 5 with fail
    have HA5 := Lib.hid (HA4.out.set1 k2)
    clear HA4 c0 c1 c2 f0 f1 f2
    generalize w4.setCell ⟨w.heap.size, 1, none⟩ (.int .i64 k2) = w5 at *
    obtain ⟨⟨c0, c1, c2⟩, -, -⟩ := row3 HA5.out.row
    obtain ⟨⟨d0, d1, d2⟩, ⟨e0, e1, e2⟩, -⟩ := row3 HA5.out.res
    go_wp2
    exact fin3g id HA5.out.res (fun w2 c0 c1 c2 => by simp [results, Tryz.results95, go_sem, c0, c1, c2]) rfl (fun w5 hgr => ⟨⟨_, _, _, rfl⟩, below_src HA5.out.hb hgr (by omega)⟩)

def rollO (a b c x y z : Int) : Obj := .cells #[.int .i64 a, .int .i64 b, .int .i64 c, .int .i64 x, .int .i64 y, .int .i64 z] 32
theorem command_calls (st sg he t er ag n : Int) (w : World) :
    Calls Tryz.prog 75 #[.agg #[.int .i64 st, .int .i64 sg, .int .i64 he, .int .i64 t, .int .i64 er, .int .i64 ag], .int .i64 n] w fun e w' => IsRollE e ∧ Below w.heap.size w w' := by
  have HB := fun (a b c x y z a' b' c' x' y' z' : Int) => box_two (w1 := w) (rollO a b c x y z) (rollO a' b' c' x' y' z')
  unfold rollO at HB
  have HB := Lib.hid HB
  go_enter Tryz.func75, Tryz.ntmps75
  go_wp2
  all_goals (refine ⟨rfl, _, (by simp [results, Tryz.results75, go_sem]; exact ⟨⟨rfl, rfl, rfl, rfl, rfl, rfl⟩, rfl⟩), ⟨⟨_, _, _, _, _, _, _, rfl⟩, ?_⟩⟩; exact HB.out _ _ _ _ _ _ _ _ _ _ _ _)

/-- where a function on a rollout stands: the argument's block and the result's -/
structure RlA (w W : World) (g : Nat) (a b c x y z : Int) : Prop where
  row : W.heap[w.heap.size]? = some (rollO a b c x y z)
  res : ∃ a b c x y z, W.heap[g]? = some (rollO a b c x y z)
  hb : Below w.heap.size w W
  ne : w.heap.size < g
theorem RlA.below {w W W' : World} {g : Nat} {a b c x y z : Int} (h : RlA w W g a b c x y z) (hb : Below W.heap.size W W') : RlA w W' g a b c x y z :=
  ⟨row_below h.row hb, by obtain ⟨a, b, c, x, y, z, hr⟩ := h.res; exact ⟨_, _, _, _, _, _, row_below hr hb⟩, Below.self_trans h.hb hb, h.ne⟩
theorem RlA.res_keep {w W : World} {g : Nat} {a b c x y z : Int} (h : RlA w W g a b c x y z) {W' : World} (hg : W.grownBy W' (some w.heap.size)) : ∃ a b c x y z, W'.heap[g]? = some (rollO a b c x y z) := by
  obtain ⟨a, b, c, x, y, z, hr⟩ := h.res
  have hne := h.ne
  exact ⟨_, _, _, _, _, _, (hg.block _ (Array.getElem?_eq_some_iff.1 hr).1 (by intro e; have := Option.some.inj e; omega)).trans hr⟩
theorem RlA.set345 {w W : World} {g : Nat} {a b c x y z : Int} (h : RlA w W g a b c x y z) (x' y' z' : Int) : RlA w (((W.setCell ⟨w.heap.size, 3, none⟩ (.int .i64 x')).setCell ⟨w.heap.size, 4, none⟩ (.int .i64 y')).setCell ⟨w.heap.size, 5, none⟩ (.int .i64 z')) g a b c x' y' z' := by
  have h1 : (W.setCell ⟨w.heap.size, 3, none⟩ (.int .i64 x')).heap[w.heap.size]? = some (rollO a b c x' y z) := (heap_setCell_same W _ 3 _ _ _ h.row).trans (by simp [rollO])
  have h2 : ((W.setCell ⟨w.heap.size, 3, none⟩ (.int .i64 x')).setCell ⟨w.heap.size, 4, none⟩ (.int .i64 y')).heap[w.heap.size]? = some (rollO a b c x' y' z) := (heap_setCell_same _ _ 4 _ _ _ h1).trans (by simp [rollO])
  have h3 : (((W.setCell ⟨w.heap.size, 3, none⟩ (.int .i64 x')).setCell ⟨w.heap.size, 4, none⟩ (.int .i64 y')).setCell ⟨w.heap.size, 5, none⟩ (.int .i64 z')).heap[w.heap.size]? = some (rollO a b c x' y' z') := (heap_setCell_same _ _ 5 _ _ _ h2).trans (by simp [rollO])
  exact ⟨h3, h.res_keep (grownBy_trans (grownBy_trans (grown_set _ _ 3 _) (grown_set _ _ 4 _)) (grown_set _ _ 5 _)), ((h.hb.setCell (p := ⟨w.heap.size, 3, none⟩) (Nat.le_refl _) _).setCell (p := ⟨w.heap.size, 4, none⟩) (Nat.le_refl _) _).setCell (p := ⟨w.heap.size, 5, none⟩) (Nat.le_refl _) _, h.ne⟩

theorem observe_calls (st sg he t er ag : Int) (failed : Bool) (w : World) :
    Calls Tryz.prog 74 #[.agg #[.int .i64 st, .int .i64 sg, .int .i64 he, .int .i64 t, .int .i64 er, .int .i64 ag], .bool failed] w fun e w' => IsRoll e ∧ Below w.heap.size w w' := by
  have H2 := heap_two' w (rollO st sg he t er ag) (rollO 0 0 0 0 0 0)
  have HA : RlA w ((w.alloc (rollO st sg he t er ag)).alloc (rollO 0 0 0 0 0 0)) (w.heap.size + 1) st sg he t er ag := ⟨H2.1, ⟨_, _, _, _, _, _, H2.2⟩, box_two _ _, by omega⟩
  have H0 := Lib.hid H2
  have HA := Lib.hid HA
  unfold rollO at H0 HA
  clear H2
  by_cases h1 : st = 1
  · subst h1
    go_enter Tryz.func74, Tryz.ntmps74
    go_wp2_with fail
    generalize ((w.alloc (.cells #[.int .i64 1, .int .i64 sg, .int .i64 he, .int .i64 t, .int .i64 er, .int .i64 ag] 32)).alloc (.cells #[.int .i64 0, .int .i64 0, .int .i64 0, .int .i64 0, .int .i64 0, .int .i64 0] 32)) = w1 at *
    refine (sample_calls _ _ _ _ _).mono ?_
    rintro e w2 ⟨⟨x, y, z, rfl⟩, hb⟩
    have HA2 := Lib.hid (HA.out.below hb)
    clear HA hb H0
    have hrow := HA2.out.row
    unfold rollO at hrow
    obtain ⟨⟨c0, c1, c2, c3, c4, c5⟩, ⟨f0, f1, f2, f3, f4, f5⟩, -⟩ := row6 hrow
    go_upto_region 3 with fail
    have HA3 := Lib.hid (HA2.out.set345 x y z)
    clear HA2 c0 c1 c2 c3 c4 c5 f0 f1 f2 f3 f4 f5 hrow
    generalize (((w2.setCell ⟨w.heap.size, 3, none⟩ (.int .i64 x)).setCell ⟨w.heap.size, 4, none⟩ (.int .i64 y)).setCell ⟨w.heap.size, 5, none⟩ (.int .i64 z)) = w3 at *
    have hrow := HA3.out.row
    obtain ⟨r1, r2, r3, r4, r5, r6, hres⟩ := HA3.out.res
    unfold rollO at hrow hres
    obtain ⟨⟨c0, c1, c2, c3, c4, c5⟩, -, -⟩ := row6 hrow
    obtain ⟨⟨d0, d1, d2, d3, d4, d5⟩, ⟨e0, e1, e2, e3, e4, e5⟩, -⟩ := row6 hres
    have hres := Lib.hid hres
    clear hrow
    go_wp2
    exact fin6g id hres.out (fun w2 c0 c1 c2 c3 c4 c5 => by simp [results, Tryz.results74, go_sem, c0, c1, c2, c3, c4, c5]) rfl (fun w5 hgr => ⟨⟨_, _, _, _, _, _, rfl⟩, below_src HA3.out.hb hgr (by omega)⟩)
  · have e1 : (st == 1) = false := by simpa using h1
    have HB := Lib.hid HA.out.hb
    clear h1 HA H0
    go_enter Tryz.func74, Tryz.ntmps74
    go_wp2
    refine ⟨rfl, _, (by simp [results, Tryz.results74, go_sem]; exact ⟨rfl, rfl, rfl, rfl, rfl, rfl⟩), ⟨⟨_, _, _, _, _, _, rfl⟩, box_two _ _⟩⟩
end Go.Proofs.YtfmokccoilgpmaaGreatDoor
