/- ParseRequest of package head. -/
import Derived.Test.YtglljdhhgmgbgaaDoorHeadG
import Derived.Test.YtglljdhhgmgbgaaDoorHeadM
import Derived.Test.YtglljdhhgmgbgaaDoorLineS
import Derived.Test.YtglljdhhgmgbgaaDoorSrcR
namespace Go.Proofs.YtglljdhhgmgbgaaDoor
open Go.RowKit Go.Own
set_option linter.unusedVariables false
set_option maxHeartbeats 4000000

theorem linesS_size {b : List UInt8} {l : List ByteArray} (h : linesS b = some l) : ∀ x ∈ l, x.size ≤ b.length := by
  unfold linesS linesP at h
  split at h
  · split at h
    · simp only [Option.map_some, Option.some.injEq] at h
      intro x hx
      rw [← h] at hx
      obtain ⟨p, hp, rfl⟩ := List.mem_map.1 hx
      rw [bs_size]
      have := pieces_len _ _ rfl p hp
      rw [List.length_take] at this
      omega
    · cases h
  · cases h
theorem pieces_count : ∀ (n : Nat) (l : List UInt8), l.length = n → (pieces l).length ≤ n + 1 := by
  intro n
  induction n using Nat.strongRecOn with
  | ind n ih =>
    intro l hn
    rcases Lib.index_spec l crlf1 with ⟨h, -⟩ | ⟨i, h, -⟩
    · rw [pieces_miss h]; simp
    · have h2 := Lib.index_room l crlf1 (by omega)
      have h2' : (crlf1.length : Int) = 2 := rfl
      rw [pieces_hit h, List.length_cons]
      have := ih (l.drop (i + 2)).length (by rw [List.length_drop]; omega) _ rfl
      rw [List.length_drop] at this
      omega
theorem linesS_count {b : List UInt8} {l : List ByteArray} (h : linesS b = some l) : l.length ≤ b.length + 1 := by
  unfold linesS linesP at h
  split at h
  · split at h
    · simp only [Option.map_some, Option.some.injEq] at h
      rw [← h, List.length_map]
      have := pieces_count _ (b.take (b.length - 4)) rfl
      rw [List.length_take] at this
      omega
    · cases h
  · cases h
theorem hlines_no {v : Value} {b : List UInt8} {w : World} (hE : Env w) (H : RdB w v b) (hb : b.length ≤ 2000000) (h : linesS b = none) :
    Calls Tryd.prog 8 #[v] w fun e w' => e = .returned (.tuple #[.string .empty, .slice none 0 0, .int .i64 2]) ∧ Below w.heap.size w w' :=
  (hlines_calls v b w hE H hb).mono fun e w' ⟨he, hw⟩ => ⟨by rw [h] at he; exact he, hw⟩
theorem hlines_ok {v : Value} {b : List UInt8} {w : World} {s : ByteArray} {r : List ByteArray} (hE : Env w) (H : RdB w v b) (hb : b.length ≤ 2000000) (h : linesS b = some (s :: r)) :
    Calls Tryd.prog 8 #[v] w fun e w' => (∃ v, e = .returned (.tuple #[.string s, v, .int .i64 0]) ∧ RdS w' v r) ∧ Below w.heap.size w w' :=
  (hlines_calls v b w hE H hb).mono fun e w' ⟨he, hw⟩ => ⟨by rw [h] at he; exact he, hw⟩

theorem parseF_name {s : ByteArray} {f : Fld} (h : parseF s = some f) : f.name.size ≤ s.size := by
  unfold parseF at h
  split at h
  · simp only at h
    split at h
    · injection h with h
      rw [← h]
      show (bs (before 58 (bl s))).size ≤ s.size
      rw [bs_size, ← bl_length]
      exact before_len _ _
    · cases h
  · cases h
theorem fieldsP_names (r : List ByteArray) (h : ∀ x ∈ r, x.size ≤ 4294967281) : (fieldsP r).1.length ≤ 64 ∧ ∀ f ∈ (fieldsP r).1, f.name.size ≤ maxLen := by
  refine ⟨(fieldsP_bd r).1, ?_⟩
  unfold fieldsP
  split
  · intro f hf; cases hf
  · split
    · intro f hf
      obtain ⟨s, hs, he⟩ := List.mem_filterMap.1 hf
      have := parseF_name he
      have := h s hs
      simp [maxLen]; omega
    · intro f hf; cases hf

def ReqV (B : Nat) (q : (ByteArray × ByteArray × Int × List Fld) × Int) (e : Ending) (w' : World) : Prop :=
  ∃ vx, e = .returned (.tuple #[.agg #[.string q.1.1, .string q.1.2.1, .int .i64 q.1.2.2.1, vx, .bool false, .slice none 0 0], .int .i64 q.2]) ∧ OwnF B w' vx q.1.2.2.2
theorem ReqV_zero {B : Nat} {q : (ByteArray × ByteArray × Int × List Fld) × Int} {w' : World} {k : Int} (h : q = ((.empty, .empty, 0, []), k)) :
    ReqV B q (.returned (.tuple #[.agg #[.string .empty, .string .empty, .int .i64 0, .slice none 0 0, .bool false, .slice none 0 0], .int .i64 k])) w' := by
  subst h; exact ⟨_, rfl, World.ownsRow_nil _ _ _ _⟩
theorem ReqV_ok {B : Nat} {q : (ByteArray × ByteArray × Int × List Fld) × Int} {w' : World} {m t : ByteArray} {n : Int} {x : List Fld} {vx : Value} (h : q = ((m, t, n, x), 0)) (hx : OwnF B w' vx x) :
    ReqV B q (.returned (.tuple #[.agg #[.string m, .string t, .int .i64 n, vx, .bool false, .slice none 0 0], .int .i64 0])) w' := by
  subst h; exact ⟨_, rfl, hx⟩
/-- the row of an empty request -/
def zreq : Obj := .cells #[.string .empty, .string .empty, .int .i64 0, .slice none 0 0, .bool false, .slice none 0 0] 28

set_option maxRecDepth 100000 in
theorem hreq_calls (v : Value) (b : List UInt8) (w : World) (hE : Env w) (H : RdB w v b) (hb : b.length ≤ 2000000) :
    Calls Tryd.prog 5 #[v] w fun e w' => ReqV w.heap.size (reqB b) e w' ∧ Below w.heap.size w w' := by
  have HB0 := (Below.refl w.heap.size w).alloc (Nat.le_refl _) zreq
  rcases linesS_cases b with hl | ⟨s, r, hl⟩
  · have HR := Lib.hid (fun w' => ReqV_zero (B := w.heap.size) (w' := w') (reqB_none hl))
    have HC := Lib.hid (hlines_no (hE.below HB0) (H.below HB0) hb hl)
    obtain ⟨a, cap, rfl, -, -, -, -⟩ := H
    unfold zreq at HC HB0
    clear hl hb
    go_enter Tryd.func5, Tryd.ntmps5
    go_wp2_with fail
    refine HC.out.mono ?_
    rintro e w1 ⟨rfl, hb1⟩
    have HA := Lib.hid (row_new hb1)
    have HB := kept_below hb1
    obtain ⟨⟨c0, c1, c2, c3, c4, c5⟩, ⟨f0, f1, f2, f3, f4, f5⟩, hz⟩ := row6 HA.out
    clear hb1 HB0
    go_wp2
    exact fin6 (fun x => .tuple #[x, .int .i64 2]) HA.out HB (Nat.le_refl _) (fun w2 c0 c1 c2 c3 c4 c5 => by simp [results, Tryd.results5, go_sem, c0, c1, c2, c3, c4, c5]) rfl (fun w2 hb => ⟨HR.out _, hb⟩)
  · have HC := Lib.hid (hlines_ok (hE.below HB0) (H.below HB0) hb hl)
    have hss := linesS_size hl
    have hsc := linesS_count hl
    have hs : s.size < 4294967281 := by have := hss s (List.mem_cons_self ..); omega
    have hrl : r.length ≤ 2000000 := by simp at hsc; omega
    have hrz : ∀ x ∈ r, x.size < 4294967281 := fun x hx => by have := hss x (List.mem_cons_of_mem _ hx); omega
    have HQ := Lib.hid (fun w hE => parseReq_calls s w hE hs)
    have HFC := Lib.hid (fun va w hE Ha => hfields_calls va r w hE Ha hrl hrz)
    obtain ⟨a, cap, rfl, -, -, -, -⟩ := H
    unfold zreq at HC HB0
    clear hss hsc hs hb
    rcases parseReq_cases s with ⟨m, t, n, hp⟩ | ⟨k, hk, hp⟩
    · have HBF := Lib.hid (fun h w' => ReqV_zero (B := w.heap.size) (w' := w') (reqB_fields (e := 0) hl hp h))
      have HBH := Lib.hid (fun h h2 w' => ReqV_zero (B := w.heap.size) (w' := w') (reqB_hosts (e := 0) hl hp h h2))
      have HOK := Lib.hid (fun h h2 w' vx hx => ReqV_ok (B := w.heap.size) (w' := w') (vx := vx) (reqB_ok hl hp h h2) hx)
      have HNM := Lib.hid (fieldsP_names r (fun x hx => Nat.le_of_lt (hrz x hx)))
      rw [hp] at HQ
      simp only [reqV] at HQ
      clear hl hp hrz
      generalize hq : fieldsP r = q at HFC HBF HBH HOK HNM
      obtain ⟨x, k⟩ := q
      clear hq
      simp only at HBF HBH HOK HNM
      go_enter Tryd.func5, Tryd.ntmps5
      go_wp2_with fail
      refine HC.out.mono ?_
      rintro e w1 ⟨⟨v1, rfl, hr1⟩, hb1⟩
      obtain ⟨a1, cp1, rfl, -, -, -, -⟩ := id hr1
      have HA := Lib.hid (row_new hb1)
      have HB := kept_below hb1
      have HQ := Lib.hid (HQ.out w1 (hE.below HB))
      have HR1 := Lib.hid hr1
      clear hb1 HB0 HC hr1
      go_wp2_with fail
      refine HQ.out.mono ?_
      rintro e w2 ⟨rfl, hb2⟩
      have HX := box_one (w1 := w2) (.cells #[.string m, .string t, .int .i64 n, .slice none 0 0, .bool false, .slice none 0 0] 28)
      have HA3 := Lib.hid (row_below (row_below HA.out hb2) HX)
      have HG3 := Lib.hid (heap_alloc_new w2 (.cells #[.string m, .string t, .int .i64 n, .slice none 0 0, .bool false, .slice none 0 0] 28))
      have HB3 := Below.self_trans (Below.self_trans HB hb2) HX
      have HF3 := Lib.hid (HFC.out _ _ (hE.below HB3) ((HR1.out.below hb2).below HX))
      have hlt := (Array.getElem?_eq_some_iff.1 (row_below HA.out hb2)).1
      clear HA HB hb2 HQ HR1 HX HFC
      go_wp2_with fail
      refine HF3.out.mono ?_
      rintro e w4 ⟨⟨vx, rfl, hof⟩, hb4⟩
      obtain ⟨ax, cx, rfl, -, -, -⟩ := owned_slice hof
      have HA4 := row_below HA3.out hb4
      have HG4 := row_below HG3.out hb4
      have HB4 := Lib.hid (Below.self_trans HB3 hb4)
      obtain ⟨⟨-, -, -, c3, -, -⟩, ⟨-, -, -, f3, -, -⟩, -⟩ := row6 HG4
      have hg := grown_set w4 w2.heap.size 3 (.slice ax x.length cx)
      have HA5 := Lib.hid ((hg.block _ (Array.getElem?_eq_some_iff.1 HA4).1 (by intro e; have := Option.some.inj e; omega)).trans HA4)
      have HG5 := Lib.hid (show (w4.setCell ⟨w2.heap.size, 3, none⟩ (.slice ax x.length cx)).heap[w2.heap.size]? = some (.cells #[.string m, .string t, .int .i64 n, .slice ax x.length cx, .bool false, .slice none 0 0] 28) from (heap_setCell_same w4 w2.heap.size 3 _ _ (.slice ax x.length cx) HG4).trans (by simp))
      rw [World.size_alloc] at hof
      have HO5 := Lib.hid (show OwnF (w2.heap.size + 1) (w4.setCell ⟨w2.heap.size, 3, none⟩ (.slice ax x.length cx)) (.slice ax x.length cx) x from own_src hof hg (by omega))
      have HB5 := Lib.hid (HB4.out.setCell (p := ⟨w2.heap.size, 3, none⟩) (Nat.le_of_lt hlt) (.slice ax x.length cx))
      have d3 : (w4.setCell ⟨w2.heap.size, 3, none⟩ (.slice ax x.length cx)).cell? ⟨w2.heap.size, 3, none⟩ = some (.slice ax x.length cx) := (row6 HG5.out).1.2.2.2.1
      obtain ⟨⟨a0, a1', a2, a3, a4, a5⟩, ⟨g0, g1, g2, g3, g4, g5⟩, -⟩ := row6 HA5.out
      clear HA3 HG3 HB3 HF3 hb4 hof HA4 HG4 HB4 hg
      by_cases hk : k = 0
      · subst hk
        go_wp2_with fail
        generalize (w4.setCell ⟨w2.heap.size, 3, none⟩ (.slice ax x.length cx)) = W5 at *
        have HVC := Lib.hid (values_calls (.slice ax x.length cx) x ⟨#[72, 111, 115, 116]⟩ W5 HO5.out.rd (by have := HNM.out.1; omega) (by decide) HNM.out.2)
        refine HVC.out.mono ?_
        rintro e w6 ⟨⟨vv, rfl, hov⟩, hb6⟩
        obtain ⟨av, cv, rfl, -, -, -⟩ := owned_slice hov
        have HA6 := Lib.hid (row_below HA5.out hb6)
        have HG6 := Lib.hid (row_below HG5.out hb6)
        have HO6 := Lib.hid (HO5.out.below hb6)
        have HB6 := Below.self_trans HB5.out hb6
        have hhe : valuesS x ⟨#[72, 111, 115, 116]⟩ = valuesS x hHost := rfl
        rw [hhe] at *
        obtain ⟨c, hc⟩ : ∃ c, (valuesS x hHost).length = c := ⟨_, rfl⟩
        rw [hc]
        have HCN := Lib.hid hc
        obtain ⟨⟨k0, k1, k2, k3, k4, k5⟩, -, -⟩ := row6 HG6.out
        obtain ⟨⟨j0, j1, j2, j3, j4, j5⟩, ⟨i0, i1, i2, i3, i4, i5⟩, -⟩ := row6 HA6.out
        clear c3 f3 d3 a0 a1' a2 a3 a4 a5 g0 g1 g2 g3 g4 g5 HA5 HG5 HO5 HB5 HVC hov hb6 hc HBF hhe
        by_cases h1 : 1 < c
        · have h1i : (1 : Int) < (c : Int) := by omega
          have HR := Lib.hid (HBH.out trivial (by unfold hostsBad; rw [HCN.out, decide_eq_true h1]; rfl))
          clear HBH HOK HCN h1
          go_wp2
          exact fin6 (fun x => .tuple #[x, .int .i64 2]) HA6.out HB6 (Nat.le_refl _) (fun w2 c0 c1 c2 c3 c4 c5 => by simp [results, Tryd.results5, go_sem, c0, c1, c2, c3, c4, c5]) rfl (fun w2 hb => ⟨HR.out _, hb⟩)
        · have h1i : ¬ (1 : Int) < (c : Int) := by omega
          by_cases h0 : c = 0
          · have h0i : ((c : Int) == 0) = true := by rw [beq_iff_eq]; omega
            cases hn : (n == 1) with
            | true =>
              have HR := Lib.hid (HBH.out trivial (by unfold hostsBad; rw [HCN.out, h0, hn]; rfl))
              clear HBH HOK HCN h1 h0
              go_wp2
              exact fin6 (fun x => .tuple #[x, .int .i64 2]) HA6.out HB6 (Nat.le_refl _) (fun w2 c0 c1 c2 c3 c4 c5 => by simp [results, Tryd.results5, go_sem, c0, c1, c2, c3, c4, c5]) rfl (fun w2 hb => ⟨HR.out _, hb⟩)
            | false =>
              have HR := Lib.hid (HOK.out trivial (by unfold hostsBad; rw [HCN.out, h0, hn]; rfl))
              clear HBH HOK HCN h1 h0
              go_wp2
              exact fin6g (fun x => .tuple #[x, .int .i64 0]) HA6.out (fun w2 c0 c1 c2 c3 c4 c5 => by simp [results, Tryd.results5, go_sem, c0, c1, c2, c3, c4, c5]) rfl (fun w7 hg => ⟨HR.out w7 _ (World.ownsRow.mono (own_src HO6.out hg (by omega)) (by omega)), HB6.grown hg HB6.size (fun k hk => by have := Option.some.inj hk; omega)⟩)
          · have h0i : ((c : Int) == 0) = false := by rw [beq_eq_false_iff_ne]; omega
            have HR := Lib.hid (HOK.out trivial (by unfold hostsBad; rw [HCN.out, decide_eq_false h1, show c = 1 by omega]; rfl))
            clear HBH HOK HCN h1 h0
            go_wp2
            exact fin6g (fun x => .tuple #[x, .int .i64 0]) HA6.out (fun w2 c0 c1 c2 c3 c4 c5 => by simp [results, Tryd.results5, go_sem, c0, c1, c2, c3, c4, c5]) rfl (fun w7 hg => ⟨HR.out w7 _ (World.ownsRow.mono (own_src HO6.out hg (by omega)) (by omega)), HB6.grown hg HB6.size (fun k hk => by have := Option.some.inj hk; omega)⟩)
      · have hk2 : (k != 0) = true := neq_int hk
        have HR := Lib.hid (HBF.out hk)
        clear hk HBF HBH HOK HNM HG5 HO5
        go_wp2
        exact fin6 (fun x => .tuple #[x, .int .i64 k]) HA5.out HB5.out (Nat.le_refl _) (fun w2 c0 c1 c2 c3 c4 c5 => by simp [results, Tryd.results5, go_sem, c0, c1, c2, c3, c4, c5]) rfl (fun w2 hb => ⟨HR.out _, hb⟩)
    · have HR := Lib.hid (fun w' => ReqV_zero (B := w.heap.size) (w' := w') (reqB_line hl hp))
      rw [hp] at HQ
      have hk2 : (k != 0) = true := neq_int hk
      simp only [reqV] at HQ
      clear hl hp hk HFC hrz
      go_enter Tryd.func5, Tryd.ntmps5
      go_wp2_with fail
      refine HC.out.mono ?_
      rintro e w1 ⟨⟨v1, rfl, hr1⟩, hb1⟩
      have HA := Lib.hid (row_new hb1)
      have HB := kept_below hb1
      have HQ := Lib.hid (HQ.out w1 (hE.below HB))
      clear hb1 HB0 HC hr1
      go_wp2_with fail
      refine HQ.out.mono ?_
      rintro e w2 ⟨rfl, hb2⟩
      have HX := box_one (w1 := w2) (.cells #[.string .empty, .string .empty, .int .i64 0, .slice none 0 0, .bool false, .slice none 0 0] 28)
      have HA3 := Lib.hid (row_below (row_below HA.out hb2) HX)
      have HB3 := Below.self_trans (Below.self_trans HB hb2) HX
      obtain ⟨⟨a0, a1', a2, a3, a4, a5⟩, ⟨g0, g1, g2, g3, g4, g5⟩, -⟩ := row6 HA3.out
      clear HA HB hb2 HQ HX
      go_wp2
      exact fin6 (fun x => .tuple #[x, .int .i64 k]) HA3.out HB3 (Nat.le_refl _) (fun w2 c0 c1 c2 c3 c4 c5 => by simp [results, Tryd.results5, go_sem, c0, c1, c2, c3, c4, c5]) rfl (fun w2 hb => ⟨HR.out _, hb⟩)
end Go.Proofs.YtglljdhhgmgbgaaDoor
