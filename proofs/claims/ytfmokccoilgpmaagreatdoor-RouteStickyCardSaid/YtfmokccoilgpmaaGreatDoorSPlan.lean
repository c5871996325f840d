/- canarymade.Source.Plan. -/
import Derived.Test.YtfmokccoilgpmaaGreatDoorPC
import Derived.Test.YtfmokccoilgpmaaGreatDoorLineR
import Derived.Test.YtfmokccoilgpmaaGreatDoorSrcR
namespace Go.Proofs.YtfmokccoilgpmaaGreatDoor
open Go.RowKit Go.Own
set_option linter.unusedVariables false
set_option maxHeartbeats 2000000
set_option maxRecDepth 20000

theorem info_int : (Tryz.prog.info? 3).map (fun i => (i.zero, i.size, i.bytes)) = some (some (.int .i64 0), 1, 8) := by kernel_rfl
theorem intsV_snoc (l : List Int) (x : Int) : intsV (l ++ [x]) = intsV l ++ [.int .i64 x] := by simp [intsV, intV]
theorem int_one (x : Int) : ∀ u ∈ [Value.int .i64 x], u.oneCell' = true := by
  intro u hu; rw [List.mem_singleton] at hu; subst hu; rfl
def planRow (v : Value) (ms num den hold win : Int) : Obj := .cells #[v, .int .i64 ms, .int .i64 num, .int .i64 den, .int .i64 hold, .int .i64 win] 25
/-- where Plan stands: g is the plan's block -/
structure PlA (w W : World) (p g : Nat) (l : List Int) (a : Option Addr) (c : Nat) (ws : List Int) (ms num den hold win : Int) : Prop where
  row : W.heap[g]? = some (planRow (.slice a ws.length c) ms num den hold win)
  res : W.heap[w.heap.size]? = some (planRow (.slice none 0 0) 0 0 0 0 0)
  own : W.ownsRow (g + 1) 3 1 (.slice a ws.length c) ws.length (intsV ws)
  gr : w.grownBy W (some p)
  src : Src W p l
theorem PlA.next {w W W' : World} {p g : Nat} {l : List Int} {a : Option Addr} {c : Nat} {ws : List Int} {ms num den hold win : Int} (h : PlA w W p g l a c ws ms num den hold win) (hp : p < w.heap.size) (hg : w.heap.size < g) (hgr : W.grownBy W' (some p)) (hs : Src W' p l) : PlA w W' p g l a c ws ms num den hold win :=
  ⟨grown_at hgr h.row (by omega), grown_at hgr h.res (by omega), h.own.kept hgr (by
    cases e : (Value.slice a ws.length c).ownBlock with
    | none => exact Or.inl rfl
    | some k => right; intro e2; have := (h.own.lt k e).1; have := Option.some.inj e2; omega), grownBy_trans h.gr hgr, hs⟩
theorem PlA.put {w W W' : World} {p g : Nat} {l : List Int} {a a1 : Option Addr} {c c1 : Nat} {ws : List Int} {ms num den hold win x : Int} (h : PlA w W p g l a c ws ms num den hold win) (hp : p < w.heap.size) (hg : w.heap.size < g)
    (hown : W'.ownsRow (g + 1) 3 1 (.slice a1 (ws.length + 1) c1) (ws.length + 1) (intsV ws ++ [.int .i64 x])) (hgr : W.grownBy W' (blk a)) : PlA w (W'.setCell ⟨g, 0, none⟩ (.slice a1 (ws.length + 1) c1)) p g l a1 c1 (ws ++ [x]) ms num den hold win := by
  have hlow : ∀ k, blk a = some k → g < k := fun k hk => (h.own.lt k (by rw [ownBlock_slice]; exact hk)).1
  have hlt := (Array.getElem?_eq_some_iff.1 h.row).1
  have hlt0 := (Array.getElem?_eq_some_iff.1 h.res).1
  have r1 : W'.heap[g]? = some (planRow (.slice a ws.length c) ms num den hold win) := (hgr.block _ hlt (by intro e; have := hlow g e.symm; omega)).trans h.row
  have r0 : W'.heap[w.heap.size]? = some (planRow (.slice none 0 0) 0 0 0 0 0) := (hgr.block _ hlt0 (by intro e; have := hlow _ e.symm; omega)).trans h.res
  have hgs := grown_set W' g 0 (.slice a1 (ws.length + 1) c1)
  have e1 : (ws ++ [x]).length = ws.length + 1 := by simp
  refine ⟨?_, ?_, ?_, ?_, ?_⟩
  · rw [e1]; exact (heap_setCell_same W' g 0 _ _ _ r1).trans (by simp [planRow])
  · exact (hgs.block _ (Array.getElem?_eq_some_iff.1 r0).1 (by intro e; have := Option.some.inj e; omega)).trans r0
  · rw [e1, intsV_snoc]; exact ownsRow_setCell_below hown (by simp) _
  · exact grownBy_own (grownBy_own h.gr hgr (fun k hk => by have := hlow k hk; omega)) hgs (fun k hk => by have := Option.some.inj hk; omega)
  · exact src_own (src_own h.src hgr (fun k hk => by have := hlow k hk; omega)) hgs (fun k hk => by have := Option.some.inj hk; omega)

theorem splan_calls (p : Nat) (l : List Int) (w : World) (h : Src w p l) :
    Calls Tryz.prog 46 #[.pointer (some ⟨p, 0, none⟩)] w fun e w' => (∃ P : Pl, ∃ vw, e = .returned (.agg #[vw, .int .i64 P.ms, .int .i64 P.num, .int .i64 P.den, .int .i64 P.hold, .int .i64 P.win]) ∧ RdI w' vw P.ws ∧ w'.ownsRow w.heap.size 3 1 vw P.ws.length (intsV P.ws)) ∧ w.grownBy w' (some p) ∧ Src w' p l := by
  have hlt := h.lt
  have HR0 := Lib.hid (heap_alloc_new w (planRow (.slice none 0 0) 0 0 0 0 0))
  have hgr0 := World.grownBy_alloc w (planRow (.slice none 0 0) 0 0 0 0 0) (some p)
  have hs0 := h.grown ((Below.refl _ _).alloc (Nat.le_refl _) (planRow (.slice none 0 0) 0 0 0 0 0))
  unfold planRow at HR0 hgr0 hs0
  go_enter Tryz.func46, Tryz.ntmps46
  go_wp2_with fail
  generalize (w.alloc (.cells #[.slice none 0 0, .int .i64 0, .int .i64 0, .int .i64 0, .int .i64 0, .int .i64 0] 25)) = w0 at *
  refine (next_calls p l 3 _ hs0 (by omega) (by omega)).mono ?_
  rintro e w1 ⟨⟨r1, rfl, g1, g2⟩, hg1, hs1⟩
  have HR1 := Lib.hid (grown_at hg1 HR0.out (by omega))
  have hgr1 := grownBy_trans hgr0 hg1
  clear hg1 hgr0 hs0 HR0
  go_wp2_with fail
  refine (next_calls p l 3 _ hs1 (by omega) (by omega)).mono ?_
  rintro e w2 ⟨⟨r2, rfl, -, -⟩, hg2, hs2⟩
  have HR2 := Lib.hid (grown_at hg2 HR1.out (by omega))
  have hgr2 := grownBy_trans hgr1 hg2
  clear hg2 hgr1 hs1 HR1
  go_wp2_with fail
  refine (next_calls p l 4 _ hs2 (by omega) (by omega)).mono ?_
  rintro e w3 ⟨⟨r3, rfl, g5, g6⟩, hg3, hs3⟩
  have HR3 := Lib.hid (grown_at hg3 HR2.out (by omega))
  have hgr3 := grownBy_trans hgr2 hg3
  clear hg3 hgr2 hs2 HR2
  go_wp2_with fail
  refine (next_calls p l 3 _ hs3 (by omega) (by omega)).mono ?_
  rintro e w4 ⟨⟨r4, rfl, g7, g8⟩, hg4, hs4⟩
  have HR4 := Lib.hid (grown_at hg4 HR3.out (by omega))
  have hgr4 := grownBy_trans hgr3 hg4
  clear hg4 hgr3 hs3 HR3
  go_wp2_with fail
  refine (next_calls p l 4 _ hs4 (by omega) (by omega)).mono ?_
  rintro e w5 ⟨⟨r5, rfl, g9, g10⟩, hg5, hs5⟩
  have HR5 := Lib.hid (grown_at hg5 HR4.out (by omega))
  have hgr5 := grownBy_trans hgr4 hg5
  clear hg5 hgr4 hs4 HR4
  have hx5 := (Below.refl w5.heap.size w5).alloc (Nat.le_refl _) (planRow (.slice none 0 0) (1 + r1) r2 (1 + r3) (1 + r4) (1 + r5))
  have hlt5 := (Array.getElem?_eq_some_iff.1 HR5.out).1
  have HA : PlA w (w5.alloc (planRow (.slice none 0 0) (1 + r1) r2 (1 + r3) (1 + r4) (1 + r5))) p w5.heap.size l none 0 [] (1 + r1) r2 (1 + r3) (1 + r4) (1 + r5) :=
    ⟨heap_alloc_new _ _, row_below HR5.out hx5, World.ownsRow_nil _ _ _ _, grownBy_trans hgr5 (World.grownBy_alloc _ _ _), hs5.grown hx5⟩
  unfold planRow at HA
  have HA := Lib.hid HA
  go_wp2_with fail
  generalize hgz : w5.heap.size = g at *
  have hgz0 : w.heap.size < g := hlt5
  generalize (w5.alloc (.cells #[.slice none 0 0, .int .i64 (1 + r1), .int .i64 r2, .int .i64 (1 + r3), .int .i64 (1 + r4), .int .i64 (1 + r5)] 25)) = w6 at *
  clear hs5 hgr5 HR5 hlt5 hx5 hgz
  generalize 1 + r1 = ms at *
  generalize 1 + r3 = den at *
  generalize 1 + r4 = hold at *
  generalize 1 + r5 = win at *
  refine (next_calls p l 3 _ HA.out.src (by omega) (by omega)).mono ?_
  rintro e w7 ⟨⟨r6, rfl, k1, k2⟩, hg7, hs7⟩
  have HA7 := Lib.hid (HA.out.next hlt hgz0 hg7 hs7)
  clear HA hg7 hs7 g1 g2 g5 g6 g7 g8 g9 g10
  go_wp2
  go_loopw [4, 5] (fun s4 s5 wr => ∃ (acc q : Int) (a : Option Addr) (c : Nat) (ws : List Int), s4 = .int .i64 acc ∧ s5 = .int .i64 q ∧ 0 ≤ q ∧ q + (ws.length : Int) ≤ 3 ∧ 0 ≤ acc ∧ acc ≤ 3301 * (ws.length : Int) ∧ (∀ x ∈ ws, In64 x) ∧ PlA w wr p g l a c ws ms r2 den hold win) (fun _ i _ => (intOf i).toNat)
  case atStart => exact ⟨0, 1 + r6, none, 0, [], rfl, rfl, by omega, by simp; omega, by omega, by simp, by simp, HA7.out⟩
  case round =>
    clear HA7 k1 k2
    obtain ⟨acc, q, a, c, ws, rfl, rfl, hq0, hq3, ha0, ha1, hin, HA⟩ := hrel
    have HIN := Lib.hid hin
    have HA := Lib.hid HA
    have hacc : acc ≤ 10000 := by omega
    have hq4 : q ≤ 3 := by omega
    have HQ := Lib.hid hq3
    have HC := Lib.hid ha1
    clear hin hq3 ha1
    by_cases hq : 0 < q
    · go_wp2_with fail
      refine (next_calls p l 3300 _ HA.out.src (by omega) (by omega)).mono ?_
      rintro e w2 ⟨⟨t, rfl, t1, t2⟩, hg2, hs2⟩
      have HA2 := Lib.hid (HA.out.next hlt hgz0 hg2 hs2)
      clear HA hg2 hs2
      obtain ⟨⟨c0, c1, c2, c3, c4, c5⟩, ⟨f0, f1, f2, f3, f4, f5⟩, -⟩ := row6 HA2.out.row
      have hwl : ws.length ≤ 3 := by have := HQ.out; omega
      have hroom : (ws.length + 1) * 8 ≤ 140737488355328 := by omega
      have hroom2 : ws.length + 1 ≤ maxLen := by simp [maxLen]; omega
      have hsz : g + 1 ≤ w2.heap.size := (Array.getElem?_eq_some_iff.1 HA2.out.row).1
      have hown := HA2.out.own
      go_wp2_with (at_builtin; refine wpList_append_oneb rfl (.tmp 34) (.tmp 36) 22 rfl (g + 1) hsz 3 (.int .i64 0) 1 8 Tryz.underlying22 info_int rfl (by decide) a ws.length c (intsV ws) [.int .i64 (acc + 1 + t)] rfl (int_one _) rfl hown rfl hroom hroom2 ?_; intro a1 c1' w3 hown3 hg4 hw4; have HB := Lib.hid (HA2.out.put hlt hgz0 hown3 hg4); have hr3 := (hg4.block g (Array.getElem?_eq_some_iff.1 HA2.out.row).1 (by intro e; have := (HA2.out.own.lt g (by rw [ownBlock_slice]; exact e.symm)).1; omega)).trans HA2.out.row; obtain ⟨⟨d0, d1, d2, d3, d4, d5⟩, ⟨e0, e1, e2, e3, e4, e5⟩, -⟩ := row6 hr3)
      go_roundw
      case rel => exact ⟨acc + 1 + t, q - 1, _, _, ws ++ [acc + 1 + t], rfl, by go_num, by omega, by have := HQ.out; simp; omega, by omega, by have := HC.out; simp; omega, by
        intro x hx
        rcases List.mem_append.1 hx with h | h
        · exact HIN.out x h
        · rw [List.mem_singleton] at h; subst h; exact ⟨by omega, by omega⟩, HB.out⟩
      case measure => simp [intOf]; omega
    · obtain ⟨⟨c0, c1, c2, c3, c4, c5⟩, ⟨f0, f1, f2, f3, f4, f5⟩, -⟩ := row6 HA.out.row
      obtain ⟨⟨d0, d1, d2, d3, d4, d5⟩, ⟨e0, e1, e2, e3, e4, e5⟩, -⟩ := row6 HA.out.res
      go_wp2
      exact fin6g id HA.out.res (fun w2 c0 c1 c2 c3 c4 c5 => by simp [results, Tryz.results46, go_sem, c0, c1, c2, c3, c4, c5]) rfl (fun w5 hg => ⟨⟨⟨ws, ms, r2, den, hold, win⟩, _, rfl, ⟨Rd_owned (own_src HA.out.own hg (by omega)), HIN.out⟩, World.ownsRow.mono (own_src HA.out.own hg (by omega)) (by omega)⟩, grownBy_own HA.out.gr hg (fun k hk => by have := Option.some.inj hk; omega), src_own HA.out.src hg (fun k hk => by have := Option.some.inj hk; omega)⟩)
end Go.Proofs.YtfmokccoilgpmaaGreatDoor
