/- ParseRequest and ParseReply of the reference. -/
import Derived.Test.YtglljdhhgmgbgaaGreatDoorHeadT
import Derived.Test.YtglljdhhgmgbgaaGreatDoorLineV
import Derived.Test.YtglljdhhgmgbgaaGreatDoorLineU
import Derived.Test.YtglljdhhgmgbgaaGreatDoorRefV
namespace Go.Proofs.YtglljdhhgmgbgaaGreatDoor
open Go.RowKit Go.Own
set_option linter.unusedVariables false
set_option maxHeartbeats 4000000

theorem tail_slice {w : World} {a : Option Addr} {cap : Nat} {s : ByteArray} {r : List ByteArray} (h : RdC w a (strsV (s :: r))) (h1 : (s :: r).length ≤ cap) (h2 : cap ≤ maxLen) :
    ∃ V, (∀ w', (Instr.slice 56 (.slice a (r.length + 1) cap) (some (.int .i64 1)) none none).run Tryz.prog w' = .ok V w') ∧ (∃ av cv, V = .slice av r.length cv) ∧ RdS w V r := by
  have ht : Tryz.prog.underlying 56 = some (.slice (Tryz.prog.elem 56)) := by kernel_rfl
  have he : Tryz.prog.elem 56 = 9 := by kernel_rfl
  have hrun : ∀ w', (Instr.slice 56 (.slice a (r.length + 1) cap) (some (.int .i64 1)) none none).run Tryz.prog w' = .ok (sliced a 1 (r.length + 1) cap 1) w' := by
    intro w'
    rw [run_slice_l w' 56 a (r.length + 1) cap ht .i64 1 (by omega) (by omega), he, Tryz.sizeOf9]
    rfl
  refine ⟨_, hrun, ?_⟩
  obtain ⟨b, off, rfl, -⟩ := h 0 (by simp [strsV])
  unfold sliced
  rw [Nat.add_sub_cancel]
  by_cases hc : cap = 1
  · rw [if_pos hc]
    have hr : r = [] := List.eq_nil_of_length_eq_zero (by simp at h1; omega)
    subst hr
    exact ⟨⟨_, _, rfl⟩, _, _, rfl, by simp, by omega, by simp, fun k hk => by simp [strsV] at hk⟩
  · rw [if_neg hc]
    exact ⟨⟨_, _, rfl⟩, RdS_tail h (by simpa using h1) h2 _ (by rw [Nat.one_mul]) (by simp)⟩
theorem rlines_no {v : Value} {b : List UInt8} {w : World} (H : RdB w v b) (hb : b.length ≤ 2000000) (h : linesS b = none) :
    Calls Tryz.prog 44 #[v] w fun e w' => e = .returned (.tuple #[.slice none 0 0, .int .i64 2]) ∧ Below w.heap.size w w' :=
  (rlines_calls v b w H hb).mono fun e w' ⟨he, hw⟩ => ⟨by rw [h] at he; exact he, hw⟩
theorem rlines_ok {v : Value} {b : List UInt8} {w : World} {s : ByteArray} {r : List ByteArray} (H : RdB w v b) (hb : b.length ≤ 2000000) (h : linesS b = some (s :: r)) :
    Calls Tryz.prog 44 #[v] w fun e w' => (∃ v, e = .returned (.tuple #[v, .int .i64 0]) ∧ RdS w' v (s :: r)) ∧ Below w.heap.size w w' :=
  (rlines_calls v b w H hb).mono fun e w' ⟨he, hw⟩ => ⟨by rw [h] at he; exact he, hw⟩

set_option maxRecDepth 100000 in
theorem rreq_calls (v : Value) (b : List UInt8) (w : World) (H : RdB w v b) (hb : b.length ≤ 2000000) :
    Calls Tryz.prog 20 #[v] w fun e w' => ReqV w.heap.size (reqB b) e w' ∧ Below w.heap.size w w' := by
  have HB0 := (Below.refl w.heap.size w).alloc (Nat.le_refl _) (.cells #[.string .empty, .string .empty, .int .i64 0, .slice none 0 0, .bool false, .slice none 0 0] 35)
  rcases linesS_cases b with hl | ⟨s, r, hl⟩
  · have HR := Lib.hid (fun w' => ReqV_zero (B := w.heap.size) (w' := w') (reqB_none hl))
    have HC := Lib.hid (rlines_no (H.below HB0) hb hl)
    obtain ⟨a, cap, rfl, -, -, -, -⟩ := H
    clear hl hb
    go_enter Tryz.func20, Tryz.ntmps20
    go_wp2_with fail
    refine HC.out.mono ?_
    rintro e w1 ⟨rfl, hb1⟩
    have HA := Lib.hid (row_new hb1)
    have HB := kept_below hb1
    obtain ⟨⟨c0, c1, c2, c3, c4, c5⟩, ⟨f0, f1, f2, f3, f4, f5⟩, hz⟩ := row6 HA.out
    clear hb1 HB0
    go_wp2
    exact fin6 (fun x => .tuple #[x, .int .i64 2]) HA.out HB (Nat.le_refl _) (fun w2 c0 c1 c2 c3 c4 c5 => by simp [results, Tryz.results20, go_sem, c0, c1, c2, c3, c4, c5]) rfl (fun w2 hb => ⟨HR.out _, hb⟩)
  · have HC := Lib.hid (rlines_ok (H.below HB0) hb hl)
    have hss := linesS_size hl
    have hsc := linesS_count hl
    have hs : s.size < 4294967281 := by have := hss s (List.mem_cons_self ..); omega
    have hrl : r.length ≤ 2000000 := by simp at hsc; omega
    have hrz : ∀ x ∈ r, x.size < 4294967281 := fun x hx => by have := hss x (List.mem_cons_of_mem _ hx); omega
    have HQ := Lib.hid (fun w => refParseReq_calls s w hs)
    have HFC := Lib.hid (fun va w Ha => rfields_calls va r w Ha hrl hrz)
    obtain ⟨a, cap, rfl, -, -, -, -⟩ := H
    clear hss hsc hs hb
    rcases parseReq_cases s with ⟨m, t, n, hp⟩ | ⟨k, hk, hp⟩
    · have HBF := Lib.hid (fun h w' => ReqV_zero (B := w.heap.size) (w' := w') (reqB_fields (e := 0) hl hp h))
      have HBH := Lib.hid (fun h h2 w' => ReqV_zero (B := w.heap.size) (w' := w') (reqB_hosts (e := 0) hl hp h h2))
      have HOK := Lib.hid (fun h h2 w' vx hx => ReqV_ok (B := w.heap.size) (w' := w') (vx := vx) (reqB_ok hl hp h h2) hx)
      have HNM := Lib.hid (fieldsP_names r (fun x hx => Nat.le_of_lt (hrz x hx)))
      rw [hp] at HQ
      simp only [reqV] at HQ
      clear hl hp hrz
      generalize hq : fieldsP r = q at HFC HBF HBH HOK HNM
      obtain ⟨x, k⟩ := q
      clear hq
      simp only at HBF HBH HOK HNM
      go_enter Tryz.func20, Tryz.ntmps20
      go_wp2_with fail
      refine HC.out.mono ?_
      rintro e w1 ⟨⟨v1, rfl, hr1⟩, hb1⟩
      obtain ⟨a1, cp1, rfl, q1, q2, -, q4⟩ := id hr1
      have HA := Lib.hid (row_new hb1)
      have HB := kept_below hb1
      have HQ := Lib.hid (HQ.out w1)
      obtain ⟨gs, os, rfl, hcell⟩ := q4.str 0 (by simp)
      have hcell : w1.cell? ⟨gs, os, none⟩ = some (.string s) := hcell
      obtain ⟨V, hV, ⟨av, cv, rfl⟩, hVr⟩ := tail_slice q4 q1 q2
      have HR1 := Lib.hid hVr
      clear q1 q2 q4 hVr hr1
      clear hb1 HB0 HC
      go_wp2_with fail
      refine HQ.out.mono ?_
      rintro e w2 ⟨rfl, hb2⟩
      have HX := box_one (w1 := w2) (.cells #[.string m, .string t, .int .i64 n, .slice none 0 0, .bool false, .slice none 0 0] 35)
      have HA3 := Lib.hid (row_below (row_below HA.out hb2) HX)
      have HG3 := Lib.hid (heap_alloc_new w2 (.cells #[.string m, .string t, .int .i64 n, .slice none 0 0, .bool false, .slice none 0 0] 35))
      have HB3 := Below.self_trans (Below.self_trans HB hb2) HX
      have HF3 := Lib.hid (HFC.out _ _ ((HR1.out.below hb2).below HX))
      have hlt := (Array.getElem?_eq_some_iff.1 (row_below HA.out hb2)).1
      clear HA HB hb2 HQ HR1 HX HFC hcell
      go_wp2_with fail
      refine HF3.out.mono ?_
      rintro e w4 ⟨⟨vx, rfl, hof⟩, hb4⟩
      obtain ⟨ax, cx, rfl, -, -, -⟩ := owned_slice hof
      have HA4 := row_below HA3.out hb4
      have HG4 := row_below HG3.out hb4
      have HB4 := Lib.hid (Below.self_trans HB3 hb4)
      obtain ⟨⟨-, -, -, c3, -, -⟩, ⟨-, -, -, f3, -, -⟩, -⟩ := row6 HG4
      have hg := grown_set w4 w2.heap.size 3 (.slice ax x.length cx)
      have HA5 := Lib.hid ((hg.block _ (Array.getElem?_eq_some_iff.1 HA4).1 (by intro e; have := Option.some.inj e; omega)).trans HA4)
      have HG5 := Lib.hid (show (w4.setCell ⟨w2.heap.size, 3, none⟩ (.slice ax x.length cx)).heap[w2.heap.size]? = some (.cells #[.string m, .string t, .int .i64 n, .slice ax x.length cx, .bool false, .slice none 0 0] 35) from (heap_setCell_same w4 w2.heap.size 3 _ _ (.slice ax x.length cx) HG4).trans (by simp))
      rw [World.size_alloc] at hof
      have HO5 := Lib.hid (show OwnF (w2.heap.size + 1) (w4.setCell ⟨w2.heap.size, 3, none⟩ (.slice ax x.length cx)) (.slice ax x.length cx) x from own_src hof hg (by omega))
      have HB5 := Lib.hid (HB4.out.setCell (p := ⟨w2.heap.size, 3, none⟩) (Nat.le_of_lt hlt) (.slice ax x.length cx))
      have d3 : (w4.setCell ⟨w2.heap.size, 3, none⟩ (.slice ax x.length cx)).cell? ⟨w2.heap.size, 3, none⟩ = some (.slice ax x.length cx) := (row6 HG5.out).1.2.2.2.1
      obtain ⟨⟨a_0, a_1, a_2, a_3, a_4, a_5⟩, ⟨g_0, g_1, g_2, g_3, g_4, g_5⟩, -⟩ := row6 HA5.out
      clear HA3 HG3 HB3 HF3 hb4 hof HA4 HG4 HB4 hg
      by_cases hk : k = 0
      · subst hk
        go_wp2_with fail
        generalize (w4.setCell ⟨w2.heap.size, 3, none⟩ (.slice ax x.length cx)) = W5 at *
        have HVC := Lib.hid (refValues_calls (.slice ax x.length cx) x ⟨#[104, 111, 115, 116]⟩ W5 HO5.out.rd (by have := HNM.out.1; omega) (by decide) HNM.out.2)
        refine HVC.out.mono ?_
        rintro e w6 ⟨⟨vv, rfl, hov⟩, hb6⟩
        obtain ⟨av', cv', rfl, -, -, -⟩ := owned_slice hov
        have HA6 := Lib.hid (row_below HA5.out hb6)
        have HG6 := Lib.hid (row_below HG5.out hb6)
        have HO6 := Lib.hid (HO5.out.below hb6)
        have HB6 := Below.self_trans HB5.out hb6
        have hhe : valuesS x ⟨#[104, 111, 115, 116]⟩ = valuesS x hHost := values_host x
        rw [hhe] at *
        obtain ⟨c, hc⟩ : ∃ c, (valuesS x hHost).length = c := ⟨_, rfl⟩
        rw [hc]
        have HCN := Lib.hid hc
        obtain ⟨⟨k0, k1, k2, k3, k4, k5⟩, -, -⟩ := row6 HG6.out
        obtain ⟨⟨j0, j1, j2, j3, j4, j5⟩, ⟨i0, i1, i2, i3, i4, i5⟩, -⟩ := row6 HA6.out
        clear c3 f3 d3 a_0 g_0 a_1 g_1 a_2 g_2 a_3 g_3 a_4 g_4 a_5 g_5 HA5 HG5 HO5 HB5 HVC hov hb6 hc HBF hhe
        by_cases h1 : 1 < c
        · have h1i : (1 : Int) < (c : Int) := by omega
          have HR := Lib.hid (HBH.out trivial (by unfold hostsBad; rw [HCN.out, decide_eq_true h1]; rfl))
          clear HBH HOK HCN h1
          go_wp2
          exact fin6 (fun x => .tuple #[x, .int .i64 2]) HA6.out HB6 (Nat.le_refl _) (fun w2 c0 c1 c2 c3 c4 c5 => by simp [results, Tryz.results20, go_sem, c0, c1, c2, c3, c4, c5]) rfl (fun w2 hb => ⟨HR.out _, hb⟩)
        · have h1i : ¬ (1 : Int) < (c : Int) := by omega
          by_cases h0 : c = 0
          · have h0i : ((c : Int) == 0) = true := by rw [beq_iff_eq]; omega
            cases hn : (n == 1) with
            | true =>
              have HR := Lib.hid (HBH.out trivial (by unfold hostsBad; rw [HCN.out, h0, hn]; rfl))
              clear HBH HOK HCN h1 h0
              go_wp2
              exact fin6 (fun x => .tuple #[x, .int .i64 2]) HA6.out HB6 (Nat.le_refl _) (fun w2 c0 c1 c2 c3 c4 c5 => by simp [results, Tryz.results20, go_sem, c0, c1, c2, c3, c4, c5]) rfl (fun w2 hb => ⟨HR.out _, hb⟩)
            | false =>
              have HR := Lib.hid (HOK.out trivial (by unfold hostsBad; rw [HCN.out, h0, hn]; rfl))
              clear HBH HOK HCN h1 h0
              go_wp2
              exact fin6g (fun x => .tuple #[x, .int .i64 0]) HA6.out (fun w2 c0 c1 c2 c3 c4 c5 => by simp [results, Tryz.results20, go_sem, c0, c1, c2, c3, c4, c5]) rfl (fun w7 hg => ⟨HR.out w7 _ (World.ownsRow.mono (own_src HO6.out hg (by omega)) (by omega)), HB6.grown hg HB6.size (fun k hk => by have := Option.some.inj hk; omega)⟩)
          · have h0i : ((c : Int) == 0) = false := by rw [beq_eq_false_iff_ne]; omega
            have HR := Lib.hid (HOK.out trivial (by unfold hostsBad; rw [HCN.out, decide_eq_false h1, show c = 1 by omega]; rfl))
            clear HBH HOK HCN h1 h0
            go_wp2
            exact fin6g (fun x => .tuple #[x, .int .i64 0]) HA6.out (fun w2 c0 c1 c2 c3 c4 c5 => by simp [results, Tryz.results20, go_sem, c0, c1, c2, c3, c4, c5]) rfl (fun w7 hg => ⟨HR.out w7 _ (World.ownsRow.mono (own_src HO6.out hg (by omega)) (by omega)), HB6.grown hg HB6.size (fun k hk => by have := Option.some.inj hk; omega)⟩)
      · have hk2 : (k != 0) = true := neq_int hk
        have HR := Lib.hid (HBF.out hk)
        clear hk HBF HBH HOK HNM HG5 HO5
        go_wp2
        exact fin6 (fun x => .tuple #[x, .int .i64 k]) HA5.out HB5.out (Nat.le_refl _) (fun w2 c0 c1 c2 c3 c4 c5 => by simp [results, Tryz.results20, go_sem, c0, c1, c2, c3, c4, c5]) rfl (fun w2 hb => ⟨HR.out _, hb⟩)
    · have HR := Lib.hid (fun w' => ReqV_zero (B := w.heap.size) (w' := w') (reqB_line hl hp))
      rw [hp] at HQ
      have hk2 : (k != 0) = true := neq_int hk
      simp only [reqV] at HQ
      clear hl hp hk HFC hrz
      go_enter Tryz.func20, Tryz.ntmps20
      go_wp2_with fail
      refine HC.out.mono ?_
      rintro e w1 ⟨⟨v1, rfl, hr1⟩, hb1⟩
      obtain ⟨a1, cp1, rfl, -, -, -, q4⟩ := hr1
      obtain ⟨gs, os, rfl, hcell⟩ := q4.str 0 (by simp)
      have hcell : w1.cell? ⟨gs, os, none⟩ = some (.string s) := hcell
      clear q4
      have HA := Lib.hid (row_new hb1)
      have HB := kept_below hb1
      have HQ := Lib.hid (HQ.out w1)
      clear hb1 HB0 HC
      go_wp2_with fail
      refine HQ.out.mono ?_
      rintro e w2 ⟨rfl, hb2⟩
      have HX := box_one (w1 := w2) (.cells #[.string .empty, .string .empty, .int .i64 0, .slice none 0 0, .bool false, .slice none 0 0] 35)
      have HA3 := Lib.hid (row_below (row_below HA.out hb2) HX)
      have HB3 := Below.self_trans (Below.self_trans HB hb2) HX
      obtain ⟨⟨a_0, a_1, a_2, a_3, a_4, a_5⟩, ⟨g_0, g_1, g_2, g_3, g_4, g_5⟩, -⟩ := row6 HA3.out
      clear HA HB hb2 HQ HX hcell
      go_wp2
      exact fin6 (fun x => .tuple #[x, .int .i64 k]) HA3.out HB3 (Nat.le_refl _) (fun w2 c0 c1 c2 c3 c4 c5 => by simp [results, Tryz.results20, go_sem, c0, c1, c2, c3, c4, c5]) rfl (fun w2 hb => ⟨HR.out _, hb⟩)

set_option maxRecDepth 100000 in
theorem rrep_calls (v : Value) (b : List UInt8) (w : World) (H : RdB w v b) (hb : b.length ≤ 2000000) :
    Calls Tryz.prog 22 #[v] w fun e w' => RepV w.heap.size (repB b) e w' ∧ Below w.heap.size w w' := by
  have HB0 := (Below.refl w.heap.size w).alloc (Nat.le_refl _) (.cells #[.int .i64 0, .string .empty, .int .i64 0, .slice none 0 0, .slice none 0 0] 37)
  rcases linesS_cases b with hl | ⟨s, r, hl⟩
  · have HR := Lib.hid (fun w' => RepV_zero (B := w.heap.size) (w' := w') (repB_none hl))
    have HC := Lib.hid (rlines_no (H.below HB0) hb hl)
    obtain ⟨a, cap, rfl, -, -, -, -⟩ := H
    clear hl hb
    go_enter Tryz.func22, Tryz.ntmps22
    go_wp2_with fail
    refine HC.out.mono ?_
    rintro e w1 ⟨rfl, hb1⟩
    have HA := Lib.hid (row_new hb1)
    have HB := kept_below hb1
    obtain ⟨⟨c0, c1, c2, c3, c4⟩, ⟨f0, f1, f2, f3, f4⟩, hz⟩ := row5 HA.out
    clear hb1 HB0
    go_wp2
    exact fin5 (fun x => .tuple #[x, .int .i64 2]) HA.out HB (Nat.le_refl _) (fun w2 c0 c1 c2 c3 c4 => by simp [results, Tryz.results22, go_sem, c0, c1, c2, c3, c4]) rfl (fun w2 hb => ⟨HR.out _, hb⟩)
  · have HC := Lib.hid (rlines_ok (H.below HB0) hb hl)
    have hss := linesS_size hl
    have hsc := linesS_count hl
    have hs : s.size < 4294967281 := by have := hss s (List.mem_cons_self ..); omega
    have hrl : r.length ≤ 2000000 := by simp at hsc; omega
    have hrz : ∀ x ∈ r, x.size < 4294967281 := fun x hx => by have := hss x (List.mem_cons_of_mem _ hx); omega
    have HQ := Lib.hid (fun w => refParseSt_calls s w hs)
    have HFC := Lib.hid (fun va w Ha => rfields_calls va r w Ha hrl hrz)
    obtain ⟨a, cap, rfl, -, -, -, -⟩ := H
    clear hss hsc hs hb
    rcases hp : parseSt s with _ | ⟨st, rs, n⟩
    rotate_left
    · have HBF := Lib.hid (fun h w' => RepV_zero (B := w.heap.size) (w' := w') (repB_fields hl hp h))
      have HOK := Lib.hid (fun h w' vx hx => RepV_ok (B := w.heap.size) (w' := w') (vx := vx) (repB_ok hl hp h) hx)
      have HNM := Lib.hid (fieldsP_names r (fun x hx => Nat.le_of_lt (hrz x hx)))
      rw [hp] at HQ
      simp only [repV, stErr, Option.isSome_some, if_true] at HQ
      clear hl hp hrz
      generalize hq : fieldsP r = q at HFC HBF HOK HNM
      obtain ⟨x, k⟩ := q
      clear hq
      simp only at HBF HOK HNM
      go_enter Tryz.func22, Tryz.ntmps22
      go_wp2_with fail
      refine HC.out.mono ?_
      rintro e w1 ⟨⟨v1, rfl, hr1⟩, hb1⟩
      obtain ⟨a1, cp1, rfl, q1, q2, -, q4⟩ := id hr1
      have HA := Lib.hid (row_new hb1)
      have HB := kept_below hb1
      have HQ := Lib.hid (HQ.out w1)
      obtain ⟨gs, os, rfl, hcell⟩ := q4.str 0 (by simp)
      have hcell : w1.cell? ⟨gs, os, none⟩ = some (.string s) := hcell
      obtain ⟨V, hV, ⟨av, cv, rfl⟩, hVr⟩ := tail_slice q4 q1 q2
      have HR1 := Lib.hid hVr
      clear q1 q2 q4 hVr hr1
      clear hb1 HB0 HC
      go_wp2_with fail
      refine HQ.out.mono ?_
      rintro e w2 ⟨rfl, hb2⟩
      have HX := box_one (w1 := w2) (.cells #[.int .i64 st, .string rs, .int .i64 n, .slice none 0 0, .slice none 0 0] 37)
      have HA3 := Lib.hid (row_below (row_below HA.out hb2) HX)
      have HG3 := Lib.hid (heap_alloc_new w2 (.cells #[.int .i64 st, .string rs, .int .i64 n, .slice none 0 0, .slice none 0 0] 37))
      have HB3 := Below.self_trans (Below.self_trans HB hb2) HX
      have HF3 := Lib.hid (HFC.out _ _ ((HR1.out.below hb2).below HX))
      have hlt := (Array.getElem?_eq_some_iff.1 (row_below HA.out hb2)).1
      clear HA HB hb2 HQ HR1 HX HFC hcell
      go_wp2_with fail
      refine HF3.out.mono ?_
      rintro e w4 ⟨⟨vx, rfl, hof⟩, hb4⟩
      obtain ⟨ax, cx, rfl, -, -, -⟩ := owned_slice hof
      have HA4 := row_below HA3.out hb4
      have HG4 := row_below HG3.out hb4
      have HB4 := Lib.hid (Below.self_trans HB3 hb4)
      obtain ⟨⟨-, -, -, c3, -⟩, ⟨-, -, -, f3, -⟩, -⟩ := row5 HG4
      have hg := grown_set w4 w2.heap.size 3 (.slice ax x.length cx)
      have HA5 := Lib.hid ((hg.block _ (Array.getElem?_eq_some_iff.1 HA4).1 (by intro e; have := Option.some.inj e; omega)).trans HA4)
      have HG5 := Lib.hid (show (w4.setCell ⟨w2.heap.size, 3, none⟩ (.slice ax x.length cx)).heap[w2.heap.size]? = some (.cells #[.int .i64 st, .string rs, .int .i64 n, .slice ax x.length cx, .slice none 0 0] 37) from (heap_setCell_same w4 w2.heap.size 3 _ _ (.slice ax x.length cx) HG4).trans (by simp))
      rw [World.size_alloc] at hof
      have HO5 := Lib.hid (show OwnF (w2.heap.size + 1) (w4.setCell ⟨w2.heap.size, 3, none⟩ (.slice ax x.length cx)) (.slice ax x.length cx) x from own_src hof hg (by omega))
      have HB5 := Lib.hid (HB4.out.setCell (p := ⟨w2.heap.size, 3, none⟩) (Nat.le_of_lt hlt) (.slice ax x.length cx))
      obtain ⟨⟨k0, k1, k2, k3, k4⟩, -, -⟩ := row5 HG5.out
      obtain ⟨⟨a_0, a_1, a_2, a_3, a_4⟩, ⟨g_0, g_1, g_2, g_3, g_4⟩, -⟩ := row5 HA5.out
      clear HA3 HG3 HB3 HF3 hb4 hof HA4 HG4 HB4 hg
      by_cases hk : k = 0
      · subst hk
        have HR := Lib.hid (HOK.out rfl)
        clear HBF HOK HNM HG5
        go_wp2
        exact fin5g (fun x => .tuple #[x, .int .i64 0]) HA5.out (fun w2 c0 c1 c2 c3 c4 => by simp [results, Tryz.results22, go_sem, c0, c1, c2, c3, c4]) rfl (fun w7 hg => ⟨HR.out w7 _ (World.ownsRow.mono (own_src HO5.out hg (by omega)) (by omega)), HB5.out.grown hg HB5.out.size (fun k hk => by have := Option.some.inj hk; omega)⟩)
      · have hk2 : (k != 0) = true := neq_int hk
        have HR := Lib.hid (HBF.out hk)
        clear hk HBF HOK HNM HG5 HO5
        go_wp2
        exact fin5 (fun x => .tuple #[x, .int .i64 k]) HA5.out HB5.out (Nat.le_refl _) (fun w2 c0 c1 c2 c3 c4 => by simp [results, Tryz.results22, go_sem, c0, c1, c2, c3, c4]) rfl (fun w2 hb => ⟨HR.out _, hb⟩)
    · have HR := Lib.hid (fun w' => RepV_zero (B := w.heap.size) (w' := w') (repB_line hl hp))
      rw [hp] at HQ
      simp only [repV, stErr, Option.isSome_none, Bool.false_eq_true, if_false] at HQ
      clear hl hp HFC hrz
      go_enter Tryz.func22, Tryz.ntmps22
      go_wp2_with fail
      refine HC.out.mono ?_
      rintro e w1 ⟨⟨v1, rfl, hr1⟩, hb1⟩
      obtain ⟨a1, cp1, rfl, -, -, -, q4⟩ := hr1
      obtain ⟨gs, os, rfl, hcell⟩ := q4.str 0 (by simp)
      have hcell : w1.cell? ⟨gs, os, none⟩ = some (.string s) := hcell
      clear q4
      have HA := Lib.hid (row_new hb1)
      have HB := kept_below hb1
      have HQ := Lib.hid (HQ.out w1)
      clear hb1 HB0 HC
      go_wp2_with fail
      refine HQ.out.mono ?_
      rintro e w2 ⟨rfl, hb2⟩
      have HX := box_one (w1 := w2) (.cells #[.int .i64 0, .string .empty, .int .i64 0, .slice none 0 0, .slice none 0 0] 37)
      have HA3 := Lib.hid (row_below (row_below HA.out hb2) HX)
      have HB3 := Below.self_trans (Below.self_trans HB hb2) HX
      obtain ⟨⟨a_0, a_1, a_2, a_3, a_4⟩, ⟨g_0, g_1, g_2, g_3, g_4⟩, -⟩ := row5 HA3.out
      clear HA HB hb2 HQ HX hcell
      go_wp2
      exact fin5 (fun x => .tuple #[x, .int .i64 2]) HA3.out HB3 (Nat.le_refl _) (fun w2 c0 c1 c2 c3 c4 => by simp [results, Tryz.results22, go_sem, c0, c1, c2, c3, c4]) rfl (fun w2 hb => ⟨HR.out _, hb⟩)
end Go.Proofs.YtglljdhhgmgbgaaGreatDoor
