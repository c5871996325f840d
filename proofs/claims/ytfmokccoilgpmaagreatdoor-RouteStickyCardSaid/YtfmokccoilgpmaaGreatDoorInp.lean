/- canarymade.Inputs: a list of inputs of a rollout. -/
import Derived.Test.YtfmokccoilgpmaaGreatDoorSrcI
import Derived.Test.YtfmokccoilgpmaaGreatDoorRollT
namespace Go.Proofs.YtfmokccoilgpmaaGreatDoor
open Go.RowKit Go.Own
set_option linter.unusedVariables false
set_option linter.unusedSimpArgs false
set_option maxHeartbeats 4000000
set_option maxRecDepth 20000

theorem rdc_lo {w : World} {a : Option Addr} {l : List Int} (h : RdC w a (intsV l)) : l = [] ∨ ∀ b, blk a = some b → b < w.heap.size := by
  cases l with
  | nil => exact Or.inl rfl
  | cons x l =>
    right
    intro b hb
    obtain ⟨b', off, ha, hc⟩ := h 0 (by simp [intsV])
    rw [ha] at hb
    have := World.block_lt_of_cell? w _ hc
    simp [blk] at hb
    simp at this
    omega

theorem cut_calls (v : Value) (l : List Int) (n : Nat) (w : World) (h : RdI w v l) (hn : n ≤ 1000000) :
    Calls Tryz.prog 49 #[v, .int .i64 (n : Int)] w fun e w' => (∃ v', e = .returned v' ∧ RdI w v' (l.take n)) ∧ w = w' := by
  have HR := Lib.hid h
  obtain ⟨⟨a, cap, rfl, h1, h2, h3, hc⟩, hin⟩ := h
  have hlm : l.length ≤ 9223372036854775807 := by unfold maxLen at h2; omega
  have HC := Lib.hid hc
  have HI := Lib.hid hin
  clear hc hin
  by_cases hl : n < l.length
  · have hlI : (n : Int) < (l.length : Int) := by omega
    have hcI : (n : Int) ≤ (cap : Int) := by omega
    have hlI2 : (n : Int) ≤ (l.length : Int) := by omega
    go_enter Tryz.func49, Tryz.ntmps49
    go_wp2
    go_ret
    refine ⟨⟨_, rfl, ⟨a, cap, ?_, ?_, h2, h3, ?_⟩, fun x hx => HI.out x (List.mem_of_mem_take hx)⟩, rfl⟩
    · rw [List.length_take]; simp; omega
    · rw [List.length_take]; omega
    · intro k hk
      rw [intsV_length, List.length_take] at hk
      obtain ⟨b, off, h4, h5⟩ := HC.out k (by rw [intsV_length]; omega)
      refine ⟨b, off, h4, ?_⟩
      rw [h5]
      simp [intsV]
  · have hlI : ¬ (n : Int) < (l.length : Int) := by omega
    have ht := Lib.hid (show l.take n = l from List.take_of_length_le (by omega))
    go_enter Tryz.func49, Tryz.ntmps49
    go_wp2
    go_ret
    exact ⟨⟨_, rfl, by rw [ht.out]; exact HR.out⟩, rfl⟩

theorem cell_grown {w w' : World} {p b o : Nat} {v : Value} (hg : w.grownBy w' (some p)) (h : w.cell? ⟨b, o, none⟩ = some v) (hne : b ≠ p) : w'.cell? ⟨b, o, none⟩ = some v := by
  have h3 := hg.block b (World.block_lt_of_cell? w _ h) (by simpa using hne)
  unfold World.cell? at h ⊢
  simp only at h ⊢
  rw [h3]; exact h
def kiL : List Int := [1, 1, 2, 2, 3, 4]
def cmL : List Int := [1, 1, 1, 2, 3, 4, 5, 6]
theorem lit_cell (l : List Int) (W : World) (k : Nat) (hk : k < l.length) : (W.alloc (.cells (intsV l).toArray 3)).cell? ⟨W.heap.size, k, none⟩ = some (.int .i64 l[k]) := by
  obtain ⟨b, off, hb, hc⟩ := rdc_int (RdC_new W (intsV l) 3 (0, 0)) k hk
  injection hb with hb
  injection hb with e1 e2
  subst e1 e2
  rw [Nat.zero_add] at hc
  exact hc
def inO (k n : Int) : Obj := .cells #[.int .i64 k, .int .i64 n] 84
/-- where Input stands: the result's block, the input's block g -/
structure IpA (w W : World) (p g : Nat) (l : List Int) (i : Nat) (k n : Int) : Prop where
  res : W.heap[w.heap.size]? = some (inO 0 0)
  row : W.heap[g]? = some (inO k n)
  gr : w.grownBy W (some p)
  src : ∃ j, SrcI W p l j ∧ i ≤ j ∧ (i < l.length → i < j)
  lo : w.heap.size < g

theorem IpA.next {w W W' : World} {p g : Nat} {l : List Int} {i : Nat} {k n : Int} (h : IpA w W p g l i k n) (hp : p < w.heap.size) (hg : W.grownBy W' (some p)) (hs : ∃ j, SrcI W' p l j ∧ i ≤ j ∧ (i < l.length → i < j)) : IpA w W' p g l i k n :=
  ⟨grown_at hg h.res (by omega), grown_at hg h.row (by have := h.lo; omega), grownBy_trans h.gr hg, hs, h.lo⟩
theorem IpA.below {w W W' : World} {p g : Nat} {l : List Int} {i : Nat} {k n : Int} (h : IpA w W p g l i k n) (hb : Below W.heap.size W W') : IpA w W' p g l i k n :=
  ⟨row_below h.res hb, row_below h.row hb, grownBy_trans h.gr (grownBy_below hb _), by obtain ⟨j, h1, h2⟩ := h.src; exact ⟨j, h1.grown hb, h2⟩, h.lo⟩
theorem IpA.set {w W : World} {p g : Nat} {l : List Int} {i : Nat} {k n : Int} (h : IpA w W p g l i k n) (hp : p < w.heap.size) (x : Int) : IpA w (W.setCell ⟨g, 1, none⟩ (.int .i64 x)) p g l i k x := by
  have hlo := h.lo
  have hgs := grown_set W g 1 (.int .i64 x)
  exact ⟨grown_at hgs h.res (by omega), (heap_setCell_same W g 1 _ _ _ h.row).trans (by simp [inO]), grownBy_own h.gr hgs (fun k hk => by have := Option.some.inj hk; omega),
    by obtain ⟨j, h1, h2⟩ := h.src; exact ⟨j, h1.row hgs (by omega), h2⟩, h.lo⟩
theorem fin2g {P : Program} {fn : Func} {R : Ending → World → Prop} {a : Act} {w1 : World} {g : Nat} {x0 x1 y0 y1 : Value} {T : TypeId} (mk : Value → Value) (h : w1.heap[g]? = some (.cells #[x0, x1] T))
    (hres : ∀ w2 : World, w2.cell? ⟨g, 0, none⟩ = some y0 → w2.cell? ⟨g, 1, none⟩ = some y1 → (results fn a.tmps).run P w2 = .ok (mk (.agg #[y0, y1])) w2) (hd : a.defers = []) (hR : ∀ w2 : World, w1.grownBy w2 (some g) → R (.returned (mk (.agg #[y0, y1]))) w2) :
    bodyPost P fn R .ret a ((w1.setCell ⟨g, 0, none⟩ y0).setCell ⟨g, 1, none⟩ y1) := by
  have h1 : (w1.setCell ⟨g, 0, none⟩ y0).heap[g]? = some (.cells #[y0, x1] T) := (heap_setCell_same w1 g 0 _ _ _ h).trans (by simp)
  have h2 : ((w1.setCell ⟨g, 0, none⟩ y0).setCell ⟨g, 1, none⟩ y1).heap[g]? = some (.cells #[y0, y1] T) := (heap_setCell_same (w1.setCell ⟨g, 0, none⟩ y0) g 1 _ _ _ h1).trans (by simp)
  have hb : w1.grownBy ((w1.setCell ⟨g, 0, none⟩ y0).setCell ⟨g, 1, none⟩ y1) (some g) := grownBy_trans (grown_set _ g 0 _) (grown_set _ g 1 _)
  generalize ((w1.setCell ⟨g, 0, none⟩ y0).setCell ⟨g, 1, none⟩ y1) = w2 at h2 hb ⊢
  obtain ⟨⟨c0, c1⟩, -, -⟩ := row2 h2
  exact bodyPost_ret (hres w2 c0 c1) hd (hR w2 hb)

theorem input_calls (p : Nat) (l : List Int) (i : Nat) (w : World) (h : SrcI w p l i) :
    Calls Tryz.prog 51 #[.pointer (some ⟨p, 0, none⟩)] w fun e w' => (∃ k n : Int, e = .returned (.agg #[.int .i64 k, .int .i64 n])) ∧ w.grownBy w' (some p) ∧ ∃ j, SrcI w' p l j ∧ i ≤ j ∧ (i < l.length → i < j) := by
  have hlt := h.lt
  have hb2 := box_two (w1 := w) (inO 0 0) (.cells #[.int .i64 1, .int .i64 1, .int .i64 2, .int .i64 2, .int .i64 3, .int .i64 4] 3)
  have H2 := heap_two' w (inO 0 0) (.cells #[.int .i64 1, .int .i64 1, .int .i64 2, .int .i64 2, .int .i64 3, .int .i64 4] 3)
  have HC := Lib.hid (fun k hk => lit_cell kiL (w.alloc (inO 0 0)) k hk)
  have HS := h.grown hb2
  have HG := grownBy_below hb2 (some p)
  unfold inO at *
  go_enter Tryz.func51, Tryz.ntmps51
  go_wp2_with fail
  have hw1 : ((w.alloc (.cells #[.int .i64 0, .int .i64 0] 84)).alloc (.cells (intsV kiL).toArray 3)) = ((w.alloc (.cells #[.int .i64 0, .int .i64 0] 84)).alloc (.cells #[.int .i64 1, .int .i64 1, .int .i64 2, .int .i64 2, .int .i64 3, .int .i64 4] 3)) := rfl
  rw [hw1] at HC
  clear hw1 hb2
  have HZ := Lib.hid (show (w.alloc (.cells #[.int .i64 0, .int .i64 0] 84)).heap.size = w.heap.size + 1 by simp)
  rw [HZ.out] at HC
  clear HZ
  have H2 := Lib.hid H2
  generalize ((w.alloc (.cells #[.int .i64 0, .int .i64 0] 84)).alloc (.cells #[.int .i64 1, .int .i64 1, .int .i64 2, .int .i64 2, .int .i64 3, .int .i64 4] 3)) = w1 at *
  refine (nextI_calls p l i 6 _ HS (by omega) (by omega)).mono ?_
  rintro e w2 ⟨⟨r, rfl, g1, g2⟩, hg, hs⟩
  obtain ⟨k, rfl⟩ := Int.eq_ofNat_of_zero_le g1
  have hk : k < kiL.length := by show k < 6; omega
  have d0 := cell_grown hg (HC.out k hk) (show w.heap.size + 1 ≠ p by omega)
  generalize kiL[k] = x at *
  have HS2 := Lib.hid hs
  have HG2 := Lib.hid (grownBy_trans HG hg)
  have HR := Lib.hid (grown_at hg H2.out.1 (by omega))
  have hkI : (k : Int) < 6 := g2
  have hz2 : w.heap.size < w2.heap.size := (Array.getElem?_eq_some_iff.1 HR.out).1
  clear hs HC H2 hg HG g1 g2 HS
  go_upto_region 2 with fail
  have hx3 := (Below.refl w2.heap.size w2).alloc (Nat.le_refl _) (inO x 0)
  have HA : IpA w (w2.alloc (inO x 0)) p w2.heap.size l i x 0 := ⟨row_below HR.out hx3, heap_alloc_new _ _, grownBy_trans HG2.out (grownBy_below hx3 _), by obtain ⟨j, h1, h2⟩ := HS2.out; exact ⟨j, h1.grown hx3, h2⟩, hz2⟩
  unfold inO at HA hx3
  have HA := Lib.hid HA
  clear HR HG2 HS2 hx3 d0 hk hkI
  generalize w2.heap.size = g at *
  generalize w2.alloc (.cells #[.int .i64 x, .int .i64 0] 84) = w3 at *
  have hrow := HA.out.row
  unfold inO at hrow
  obtain ⟨⟨c0, c1⟩, ⟨f0, f1⟩, -⟩ := row2 hrow
  clear hrow
  cases hx4 : (x == 4) with
  | false =>
    have hres := HA.out.res
    unfold inO at hres
    obtain ⟨⟨d0, d1⟩, ⟨e0, e1⟩, -⟩ := row2 hres
    have hres := Lib.hid hres
    go_wp2
    exact fin2g id hres.out (fun w2 c0 c1 => by simp [results, Tryz.results51, go_sem, c0, c1]) rfl (fun w5 hgr => ⟨⟨_, _, rfl⟩, grownBy_own HA.out.gr hgr (fun k hk => by have := Option.some.inj hk; omega), by obtain ⟨j, h1, h2⟩ := HA.out.src; exact ⟨j, h1.row hgr hlt, h2⟩⟩)
  | true =>
    have hx5 := (Below.refl w3.heap.size w3).alloc (Nat.le_refl _) (.cells #[.int .i64 1, .int .i64 1, .int .i64 1, .int .i64 2, .int .i64 3, .int .i64 4, .int .i64 5, .int .i64 6] 3)
    have HC := Lib.hid (fun k hk => lit_cell cmL w3 k hk)
    have hw1 : (w3.alloc (.cells (intsV cmL).toArray 3)) = (w3.alloc (.cells #[.int .i64 1, .int .i64 1, .int .i64 1, .int .i64 2, .int .i64 3, .int .i64 4, .int .i64 5, .int .i64 6] 3)) := rfl
    rw [hw1] at HC
    have HA4 := Lib.hid (HA.out.below hx5)
    have hz3 : p < w3.heap.size := by have := (Array.getElem?_eq_some_iff.1 HA.out.row).1; have := HA.out.lo; omega
    clear hw1 hx5 HA
    go_wp2_with fail
    clear c0 c1 f0 f1 hx4
    generalize (w3.alloc (.cells #[.int .i64 1, .int .i64 1, .int .i64 1, .int .i64 2, .int .i64 3, .int .i64 4, .int .i64 5, .int .i64 6] 3)) = w4 at *
    obtain ⟨j, hs4, hj1, hj2⟩ := HA4.out.src
    refine (nextI_calls p l j 8 _ hs4 (by omega) (by omega)).mono ?_
    rintro e w5 ⟨⟨r, rfl, g1, g2⟩, hg, j2, hs, hj3, hj4⟩
    obtain ⟨k, rfl⟩ := Int.eq_ofNat_of_zero_le g1
    have hk : k < cmL.length := by show k < 8; omega
    have d0 := cell_grown hg (HC.out k hk) (show w3.heap.size ≠ p by omega)
    generalize cmL[k] = y at *
    have hkI : (k : Int) < 8 := g2
    have HA5 := Lib.hid (HA4.out.next hlt hg ⟨j2, hs, by omega, fun h => by have := hj2 h; omega⟩)
    have hrow := HA5.out.row
    unfold inO at hrow
    obtain ⟨⟨c0, c1⟩, ⟨f0, f1⟩, -⟩ := row2 hrow
    clear hrow HC HA4 hs4 hj1 hj2 hj3 hj4 hs hg g1 g2 hk
    go_upto_region 4 with fail
    have HA6 := Lib.hid (HA5.out.set hlt y)
    clear HA5 c0 c1 f0 f1 d0
    generalize w5.setCell ⟨g, 1, none⟩ (.int .i64 y) = w6 at *
    have hrow := HA6.out.row
    have hres := HA6.out.res
    unfold inO at hres hrow
    obtain ⟨⟨c0, c1⟩, -, -⟩ := row2 hrow
    obtain ⟨⟨d0, d1⟩, ⟨e0, e1⟩, -⟩ := row2 hres
    have hres := Lib.hid hres
    clear hrow
    go_wp2
    exact fin2g id hres.out (fun w2 c0 c1 => by simp [results, Tryz.results51, go_sem, c0, c1]) rfl (fun w5 hgr => ⟨⟨_, _, rfl⟩, grownBy_own HA6.out.gr hgr (fun k hk => by have := Option.some.inj hk; omega), by obtain ⟨j, h1, h2⟩ := HA6.out.src; exact ⟨j, h1.row hgr hlt, h2⟩⟩)

theorem info_inp : (Tryz.prog.info? 84).map (fun i => (i.zero, i.size, i.bytes)) = some (some (.agg #[.int .i64 0, .int .i64 0]), 2, 16) := by kernel_rfl
theorem inp_one (x : Int × Int) : ∀ u ∈ inpV x, u.oneCell' = true := by
  intro u hu
  simp only [inpV, List.mem_cons, List.not_mem_nil, or_false] at hu
  rcases hu with rfl | rfl <;> rfl
theorem inpsV_snoc (l : List (Int × Int)) (x : Int × Int) : inpsV (l ++ [x]) = inpsV l ++ inpV x := by rw [inpsV_append]; simp [inpsV]
/-- where Inputs stands -/
structure InA (w W : World) (l : List Int) (a : Option Addr) (c : Nat) (x : List (Int × Int)) : Prop where
  own : W.ownsRow (w.heap.size + 1) 84 2 (.slice a x.length c) x.length (inpsV x)
  src : ∃ i, SrcI W w.heap.size l i ∧ x.length ≤ i
  hb : Below w.heap.size w W
theorem InA.put {w W W' : World} {l : List Int} {a a1 : Option Addr} {c c1 i : Nat} {x : List (Int × Int)} {y : Int × Int} (h : InA w W l a c x) (hs : SrcI W w.heap.size l i) (hi : x.length < i)
    (hown : W'.ownsRow (w.heap.size + 1) 84 2 (.slice a1 (x.length + 1) c1) (x.length + 1) (inpsV x ++ inpV y)) (hgr : W.grownBy W' (blk a)) : InA w W' l a1 c1 (x ++ [y]) := by
  have hlow : ∀ k, blk a = some k → w.heap.size < k := fun k hk => (h.own.lt k (by rw [ownBlock_slice]; exact hk)).1
  have e1 : (x ++ [y]).length = x.length + 1 := by simp
  refine ⟨by rw [e1, inpsV_snoc]; exact hown, ⟨i, hs.own hgr hlow, by rw [e1]; exact hi⟩, below_row h.hb hgr h.own (by omega)⟩
theorem InA.next {w W W' : World} {l : List Int} {a : Option Addr} {c : Nat} {x : List (Int × Int)} (h : InA w W l a c x) (hg : W.grownBy W' (some w.heap.size)) (hs : ∃ i, SrcI W' w.heap.size l i ∧ x.length ≤ i) : InA w W' l a c x :=
  ⟨own_src h.own hg (by omega), hs, below_src h.hb hg (Nat.le_refl _)⟩
theorem InA.below {w W W' : World} {l : List Int} {a : Option Addr} {c : Nat} {x : List (Int × Int)} (h : InA w W l a c x) (hb : Below W.heap.size W W') : InA w W' l a c x :=
  ⟨own_below h.own hb, by obtain ⟨i, h1, h2⟩ := h.src; exact ⟨i, h1.grown hb, h2⟩, Below.self_trans h.hb hb⟩

theorem inputs_calls (v : Value) (l : List Int) (w : World) (h : RdI w v l) :
    Calls Tryz.prog 22 #[v] w fun e w' => (∃ va x, e = .returned va ∧ w'.ownsRow (w.heap.size + 1) 84 2 va x.length (inpsV x)) ∧ Below w.heap.size w w' := by
  have HC := Lib.hid (cut_calls v l 160 w h (by omega))
  go_enter Tryz.func22, Tryz.ntmps22
  go_wp2_with fail
  refine HC.out.mono ?_
  rintro e w1 ⟨⟨v', rfl, hr⟩, rfl⟩
  have hl160 : (l.take 160).length ≤ 160 := List.length_take_le _ _
  generalize l.take 160 = l1 at *
  obtain ⟨⟨a1, cap1, rfl, h1, h2, h3, hc⟩, hin⟩ := hr
  have hs := srcI_new w a1 l1 cap1 hc h1 h2 h3 hin (rdc_lo hc)
  have HA : InA w (w.alloc (.cells #[.slice a1 l1.length cap1, .int .i64 0] 60)) l1 none 0 [] :=
    ⟨World.ownsRow_nil _ _ _ _, ⟨0, hs, Nat.le_refl _⟩, (Below.refl _ _).alloc (Nat.le_refl _) _⟩
  have HA := Lib.hid HA
  clear HC hs hc hin h1 h2 h3
  go_wp2_with fail
  generalize w.alloc (.cells #[.slice a1 l1.length cap1, .int .i64 0] 60) = w1 at *
  go_loopw [4] (fun s4 wr => ∃ (a : Option Addr) (c : Nat) (x : List (Int × Int)), s4 = .slice a x.length c ∧ InA w wr l1 a c x) (fun s4 _ => l1.length - (match s4 with | .slice _ n _ => n | _ => 0))
  case atStart => exact ⟨none, 0, [], rfl, HA.out⟩
  case round =>
    clear HA
    obtain ⟨a, c, x, rfl, HA⟩ := hrel
    have HA := Lib.hid HA
    obtain ⟨i, hs, hi⟩ := HA.out.src
    go_wp2_with fail
    refine (left_calls w.heap.size l1 i wr hs).mono ?_
    rintro e w2 ⟨rfl, hb⟩
    have HA2 := Lib.hid (HA.out.below hb)
    have hs2 := hs.grown hb
    have hil := hs.le
    clear HA hb hs
    by_cases hlt : i < l1.length
    · rw [decide_eq_true hlt]
      go_wp2_with fail
      refine (input_calls w.heap.size l1 i w2 hs2).mono ?_
      rintro e w3 ⟨⟨k, n, rfl⟩, hg, j, hs3, hj1, hj2⟩
      have hj3 := hj2 hlt
      have HA3 := Lib.hid (HA2.out.next hg ⟨j, hs3, by omega⟩)
      have hown := HA3.out.own
      have hxl : x.length ≤ 160 := by omega
      have hroom : (x.length + 1) * 16 ≤ 140737488355328 := by omega
      have hroom2 : x.length + 1 ≤ maxLen := by simp [maxLen]; omega
      have hsz : w.heap.size + 1 ≤ w3.heap.size := hs3.lt
      clear HA2 hg hs2
      go_wp2_with (at_builtin; refine wpList_append_oneb rfl (.tmp 11) (.tmp 14) 63 rfl (w.heap.size + 1) hsz 84 (.agg #[.int .i64 0, .int .i64 0]) 2 16 Tryz.underlying63 info_inp rfl (by decide) a x.length c (inpsV x) (inpV (k, n)) rfl (inp_one _) rfl hown rfl hroom hroom2 ?_; intro a1 c1' w4 hown4 hg4 hw4; have HB := Lib.hid (HA3.out.put hs3 (show x.length < j by omega) hown4 hg4))
      go_roundw
      case rel => exact ⟨_, _, x ++ [(k, n)], by simp, HB.out⟩
      case measure => simp; omega
    · rw [decide_eq_false hlt]
      go_wp2
      go_ret
      exact ⟨⟨_, x, rfl, HA2.out.own⟩, HA2.out.hb⟩
end Go.Proofs.YtfmokccoilgpmaaGreatDoor
