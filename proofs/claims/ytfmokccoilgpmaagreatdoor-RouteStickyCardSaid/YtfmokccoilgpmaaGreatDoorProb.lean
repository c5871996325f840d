/- closing, Problem, Refusal of both. -/
import Derived.Test.YtfmokccoilgpmaaGreatDoorWMake
import Derived.Test.YtfmokccoilgpmaaGreatDoorReason
namespace Go.Proofs.YtfmokccoilgpmaaGreatDoor
open Go.RowKit Go.Own
set_option linter.unusedVariables false
set_option maxHeartbeats 1000000
set_option maxRecDepth 20000

def closeL (en : Bool) : List Fld := if en then [⟨⟨#[67, 111, 110, 110, 101, 99, 116, 105, 111, 110]⟩, ⟨#[99, 108, 111, 115, 101]⟩⟩] else []
def sHEAD : ByteArray := ⟨#[72, 69, 65, 68]⟩
def probB (R m : ByteArray) : List UInt8 := if m.toList == [72, 69, 65, 68] then [] else bl (R ++ ⟨#[10]⟩)
def refuseI (e ph : Int) : Int := if e == 3 && ph == 0 then 431 else if e == 9 then 413 else if e == 6 then 505 else 400
theorem rdf_one (w : World) (a b : ByteArray) (fz : Nat × Nat) : RdF (w.alloc (.cells #[.string a, .string b] 45 fz)) (.slice (some ⟨w.heap.size, 0, none⟩) 1 1) [⟨a, b⟩] :=
  ⟨_, 1, rfl, Nat.le_refl _, by simp [maxLen], by simp, RdC_new w (fieldsV [⟨a, b⟩]) _ fz⟩

theorem pro_closing_calls (en : Bool) (w : World) :
    Calls Tryz.prog 41 #[.bool en] w fun e w' => (∃ v, e = .returned v ∧ RdF w' v (closeL en)) ∧ Below w.heap.size w w' := by
  cases en with
  | false =>
    go_enter Tryz.func41, Tryz.ntmps41
    go_wp2
    go_ret
    exact ⟨⟨_, rfl, ⟨none, 0, rfl, Nat.le_refl _, Nat.zero_le _, fun _ => rfl, fun k hk => absurd hk (Nat.not_lt_zero _)⟩⟩, Below.refl _ _⟩
  | true =>
    have HB := Lib.hid ((Below.refl w.heap.size w).alloc (Nat.le_refl _) (.cells #[.string ⟨#[67, 111, 110, 110, 101, 99, 116, 105, 111, 110]⟩, .string ⟨#[99, 108, 111, 115, 101]⟩] 45))
    go_enter Tryz.func41, Tryz.ntmps41
    go_wp2
    go_ret
    exact ⟨⟨_, rfl, rdf_one w _ _ (0, 0)⟩, HB.out⟩

theorem pro_refusal_calls (er ph : Int) (w : World) :
    Calls Tryz.prog 15 #[.int .i64 er, .int .i64 ph] w fun e w' => e = .returned (.int .i64 (refuseI er ph)) ∧ w = w' := by
  have HE : Hid (refuseI er ph = if er == 3 && ph == 0 then 431 else if er == 9 then 413 else if er == 6 then 505 else 400) := Lib.hid rfl
  generalize refuseI er ph = E at *
  by_cases h3 : er = 3
  · subst h3
    by_cases h1 : ph = 0
    · subst h1
      have HD : Hid (E = 431) := Lib.hid HE.out
      go_enter Tryz.func15, Tryz.ntmps15
      go_wp2
      go_ret
      exact ⟨ret_int HD.out.symm, rfl⟩
    · have e1 : (ph == 0) = false := by simpa using h1
      have HD : Hid (E = 400) := Lib.hid (by rw [HE.out, e1]; rfl)
      clear HE h1
      go_enter Tryz.func15, Tryz.ntmps15
      go_wp2
      go_ret
      exact ⟨ret_int HD.out.symm, rfl⟩
  · have e3 : (er == 3) = false := by simpa using h3
    by_cases h9 : er = 9
    · subst h9
      have HD : Hid (E = 413) := Lib.hid HE.out
      clear HE e3 h3
      go_enter Tryz.func15, Tryz.ntmps15
      go_wp2
      go_ret
      exact ⟨ret_int HD.out.symm, rfl⟩
    · have e9 : (er == 9) = false := by simpa using h9
      by_cases h10 : er = 6
      · subst h10
        have HD : Hid (E = 505) := Lib.hid HE.out
        clear HE e3 h3 e9 h9
        go_enter Tryz.func15, Tryz.ntmps15
        go_wp2
        go_ret
        exact ⟨ret_int HD.out.symm, rfl⟩
      · have e10 : (er == 6) = false := by simpa using h10
        have HD : Hid (E = 400) := Lib.hid (by rw [HE.out, e3, e9, e10]; rfl)
        clear HE h3 h9 h10
        go_enter Tryz.func15, Tryz.ntmps15
        go_wp2
        go_ret
        exact ⟨ret_int HD.out.symm, rfl⟩

theorem pro_problem_calls (st : Int) (m : ByteArray) (en : Bool) (w : World) (hE : EnvW w) :
    Calls Tryz.prog 18 #[.int .i64 st, .string m, .bool en] w fun e w' => (∃ vf vb, e = .returned (.agg #[.int .i64 st, .string (reasonOf st), .int .i64 1, vf, vb]) ∧ RdF w' vf (makeF sTP ((reasonOf st).size + 1) (closeL en)) ∧ RdB w' vb (probB (reasonOf st) m)) ∧ Below w.heap.size w w' := by
  have HB0 := (Below.refl w.heap.size w).alloc (Nat.le_refl _) (.cells #[.int .i64 0, .string .empty, .int .i64 0, .slice none 0 0, .slice none 0 0] 55)
  have H0 := Lib.hid (heap_alloc_new w (.cells #[.int .i64 0, .string .empty, .int .i64 0, .slice none 0 0, .slice none 0 0] 55))
  have hz := reason_size st
  have hz1 : (reasonOf st ++ ⟨#[10]⟩).size = (reasonOf st).size + 1 := ByteArray.size_append ..
  have hcl : (closeL en).length ≤ 1000000 := by cases en <;> simp [closeL]
  have C1 := Lib.hid (fun w hE => reason_calls st w hE)
  have C3 := Lib.hid (fun w vm hE H => text_calls12 st (reasonOf st ++ ⟨#[10]⟩) vm (closeL en) w hE H (by omega) hcl)
  rw [hz1] at C3
  have HP : Hid (probB (reasonOf st) m = if m.toList == [72, 69, 65, 68] then [] else bl (reasonOf st ++ ⟨#[10]⟩)) := Lib.hid rfl
  generalize hL : makeF sTP ((reasonOf st).size + 1) (closeL en) = L at *
  generalize probB (reasonOf st) m = PB at *
  have HC := Lib.hid (fun w => pro_closing_calls en w)
  clear hcl hL hz1
  generalize closeL en = CL at *
  generalize reasonOf st = R at *
  go_enter Tryz.func18, Tryz.ntmps18
  go_wp2_with fail
  refine (C1.out _ (hE.below HB0)).mono ?_
  rintro e w1 HR1
  obtain ⟨rfl, hb1⟩ := HR1
  have HB1 := Below.self_trans HB0 hb1
  have H1 := Lib.hid (row_below H0.out hb1)
  go_wp2_with fail
  refine (HC.out _).mono ?_
  rintro e w2 ⟨⟨vc, rfl, hc⟩, hb2⟩
  obtain ⟨ac, cc, rfl, -, -, -, -⟩ := id hc
  have HB2 := Below.self_trans HB1 hb2
  have H2 := Lib.hid (row_below H1.out hb2)
  have HC2 := Lib.hid hc
  clear hc hb1 hb2 HB1 HB0 H0 H1
  go_wp2_with fail
  refine (C3.out _ _ (hE.below HB2) HC2.out).mono ?_
  rintro e w3 ⟨⟨vf, vb, rfl, hf, hm⟩, hb3⟩
  have HB3 := Below.self_trans HB2 hb3
  have H3 := Lib.hid (row_below H2.out hb3)
  have hlt2 := (Array.getElem?_eq_some_iff.1 H2.out).1
  obtain ⟨af, cf, rfl, -, -, -⟩ := owned_slice hf
  obtain ⟨gb, cb, rfl, m1, m2⟩ := id hm
  have HF := Lib.hid hf
  have HM := Lib.hid hm
  clear hf hm hb3 m1 m2 HB2 H2 HC2
  have HX := (Below.refl w3.heap.size w3).alloc (Nat.le_refl _) (.cells #[.int .i64 st, .string R, .int .i64 1, .slice af L.length cf, .slice (some ⟨gb, 0, none⟩) (bl (R ++ ⟨#[10]⟩)).length cb] 55)
  have H4 := heap_alloc_new w3 (.cells #[.int .i64 st, .string R, .int .i64 1, .slice af L.length cf, .slice (some ⟨gb, 0, none⟩) (bl (R ++ ⟨#[10]⟩)).length cb] 55)
  generalize hBB : bl (R ++ ⟨#[10]⟩) = BB at *
  obtain ⟨⟨c0, c1, c2, c3, c4⟩, ⟨f0, f1, f2, f3, f4⟩, -⟩ := row5 H4
  cases hm : (m.toList == [72, 69, 65, 68]) with
  | false =>
    have HPB : Hid (PB = BB) := Lib.hid (by rw [HP.out, hm]; rfl)
    obtain ⟨⟨d0, d1, d2, d3, d4⟩, ⟨e0, e1, e2, e3, e4⟩, -⟩ := row5 (row_below H3.out HX)
    have HK := Lib.hid (row_below H3.out HX)
    have HF4 := Lib.hid (HF.out.below HX)
    have HM4 := Lib.hid (HM.out.below HX)
    have HB4 := Lib.hid (Below.self_trans HB3 HX)
    clear HX H4 HF HM HB3 HP H3
    go_wp2
    exact fin5g id HK.out (fun w2 c0 c1 c2 c3 c4 => by simp [results, Tryz.results18, go_sem, c0, c1, c2, c3, c4]) rfl (fun w5 hg => ⟨⟨_, _, rfl, OwnF.rd (own_src HF4.out hg (by omega)), by rw [HPB.out]; exact (MutY.src HM4.out hg (by omega)).rd⟩, below_src HB4.out hg (Nat.le_refl _)⟩)
  | true =>
    have HPB : Hid (PB = []) := Lib.hid (by rw [HP.out, hm]; rfl)
    have HX2 := (Below.refl w3.heap.size w3).alloc (Nat.le_refl _) (.cells #[.int .i64 st, .string R, .int .i64 1, .slice af L.length cf, .slice none 0 0] 55)
    have H5 := heap_alloc_new w3 (.cells #[.int .i64 st, .string R, .int .i64 1, .slice af L.length cf, .slice none 0 0] 55)
    have HK := Lib.hid (row_below H3.out HX2)
    have HF4 := Lib.hid (HF.out.below HX2)
    have HB4 := Lib.hid (Below.self_trans HB3 HX2)
    go_upto_region 4 with fail
    clear c0 c1 c2 c3 c4 f0 f1 f2 f3 f4
    generalize (w3.alloc (.cells #[.int .i64 st, .string R, .int .i64 1, .slice af L.length cf, .slice none 0 0] 55)) = w4 at *
    obtain ⟨⟨c0, c1, c2, c3, c4⟩, -, -⟩ := row5 H5
    obtain ⟨⟨d0, d1, d2, d3, d4⟩, ⟨e0, e1, e2, e3, e4⟩, -⟩ := row5 HK.out
    clear HX H4 HF HM HB3 HP H3 HX2 H5
    go_wp2
    exact fin5g id HK.out (fun w2 c0 c1 c2 c3 c4 => by simp [results, Tryz.results18, go_sem, c0, c1, c2, c3, c4]) rfl (fun w5 hg => ⟨⟨_, _, rfl, OwnF.rd (own_src HF4.out hg (by omega)), by rw [HPB.out]; exact RdB_nil _⟩, below_src HB4.out hg (Nat.le_refl _)⟩)

theorem ref_closing_calls (en : Bool) (w : World) :
    Calls Tryz.prog 44 #[.bool en] w fun e w' => (∃ v, e = .returned v ∧ RdF w' v (closeL en)) ∧ Below w.heap.size w w' := by
  cases en with
  | false =>
    go_enter Tryz.func44, Tryz.ntmps44
    go_wp2
    go_ret
    exact ⟨⟨_, rfl, ⟨none, 0, rfl, Nat.le_refl _, Nat.zero_le _, fun _ => rfl, fun k hk => absurd hk (Nat.not_lt_zero _)⟩⟩, Below.refl _ _⟩
  | true =>
    have HB := Lib.hid ((Below.refl w.heap.size w).alloc (Nat.le_refl _) (.cells #[.string ⟨#[67, 111, 110, 110, 101, 99, 116, 105, 111, 110]⟩, .string ⟨#[99, 108, 111, 115, 101]⟩] 45))
    go_enter Tryz.func44, Tryz.ntmps44
    go_wp2
    go_ret
    exact ⟨⟨_, rfl, rdf_one w _ _ (0, 0)⟩, HB.out⟩

theorem ref_refusal_calls (er ph : Int) (w : World) :
    Calls Tryz.prog 16 #[.int .i64 er, .int .i64 ph] w fun e w' => e = .returned (.int .i64 (refuseI er ph)) ∧ w = w' := by
  have HE : Hid (refuseI er ph = if er == 3 && ph == 0 then 431 else if er == 9 then 413 else if er == 6 then 505 else 400) := Lib.hid rfl
  generalize refuseI er ph = E at *
  by_cases h3 : er = 3
  · subst h3
    by_cases h1 : ph = 0
    · subst h1
      have HD : Hid (E = 431) := Lib.hid HE.out
      go_enter Tryz.func16, Tryz.ntmps16
      go_wp2
      go_ret
      exact ⟨ret_int HD.out.symm, rfl⟩
    · have e1 : (ph == 0) = false := by simpa using h1
      have HD : Hid (E = 400) := Lib.hid (by rw [HE.out, e1]; rfl)
      clear HE h1
      go_enter Tryz.func16, Tryz.ntmps16
      go_wp2
      go_ret
      exact ⟨ret_int HD.out.symm, rfl⟩
  · have e3 : (er == 3) = false := by simpa using h3
    by_cases h9 : er = 9
    · subst h9
      have HD : Hid (E = 413) := Lib.hid HE.out
      clear HE e3 h3
      go_enter Tryz.func16, Tryz.ntmps16
      go_wp2
      go_ret
      exact ⟨ret_int HD.out.symm, rfl⟩
    · have e9 : (er == 9) = false := by simpa using h9
      by_cases h10 : er = 6
      · subst h10
        have HD : Hid (E = 505) := Lib.hid HE.out
        clear HE e3 h3 e9 h9
        go_enter Tryz.func16, Tryz.ntmps16
        go_wp2
        go_ret
        exact ⟨ret_int HD.out.symm, rfl⟩
      · have e10 : (er == 6) = false := by simpa using h10
        have HD : Hid (E = 400) := Lib.hid (by rw [HE.out, e3, e9, e10]; rfl)
        clear HE h3 h9 h10
        go_enter Tryz.func16, Tryz.ntmps16
        go_wp2
        go_ret
        exact ⟨ret_int HD.out.symm, rfl⟩

theorem ref_problem_calls (st : Int) (m : ByteArray) (en : Bool) (w : World) (hE : EnvW w) :
    Calls Tryz.prog 19 #[.int .i64 st, .string m, .bool en] w fun e w' => (∃ vf vb, e = .returned (.agg #[.int .i64 st, .string (reasonOf st), .int .i64 1, vf, vb]) ∧ RdF w' vf (makeF sTP ((reasonOf st).size + 1) (closeL en)) ∧ RdB w' vb (probB (reasonOf st) m)) ∧ Below w.heap.size w w' := by
  have HB0 := (Below.refl w.heap.size w).alloc (Nat.le_refl _) (.cells #[.int .i64 0, .string .empty, .int .i64 0, .slice none 0 0, .slice none 0 0] 55)
  have H0 := Lib.hid (heap_alloc_new w (.cells #[.int .i64 0, .string .empty, .int .i64 0, .slice none 0 0, .slice none 0 0] 55))
  have hz := reason_size st
  have hz1 : (reasonOf st ++ ⟨#[10]⟩).size = (reasonOf st).size + 1 := ByteArray.size_append ..
  have hcl : (closeL en).length ≤ 1000000 := by cases en <;> simp [closeL]
  have C1 := Lib.hid (fun w (_ : True) => same_below (refReason_calls st w))
  have C3 := Lib.hid (fun w vm (_ : True) H => refText_calls st (reasonOf st ++ ⟨#[10]⟩) vm (closeL en) w H (by omega) hcl)
  rw [hz1] at C3
  have HP : Hid (probB (reasonOf st) m = if m.toList == [72, 69, 65, 68] then [] else bl (reasonOf st ++ ⟨#[10]⟩)) := Lib.hid rfl
  generalize hL : makeF sTP ((reasonOf st).size + 1) (closeL en) = L at *
  generalize probB (reasonOf st) m = PB at *
  have HC := Lib.hid (fun w => ref_closing_calls en w)
  clear hcl hL hz1
  generalize closeL en = CL at *
  generalize reasonOf st = R at *
  go_enter Tryz.func19, Tryz.ntmps19
  go_wp2_with fail
  refine (C1.out _ trivial).mono ?_
  rintro e w1 HR1
  obtain ⟨rfl, hb1⟩ := HR1
  have HB1 := Below.self_trans HB0 hb1
  have H1 := Lib.hid (row_below H0.out hb1)
  go_wp2_with fail
  refine (HC.out _).mono ?_
  rintro e w2 ⟨⟨vc, rfl, hc⟩, hb2⟩
  obtain ⟨ac, cc, rfl, -, -, -, -⟩ := id hc
  have HB2 := Below.self_trans HB1 hb2
  have H2 := Lib.hid (row_below H1.out hb2)
  have HC2 := Lib.hid hc
  clear hc hb1 hb2 HB1 HB0 H0 H1
  go_wp2_with fail
  refine (C3.out _ _ trivial HC2.out).mono ?_
  rintro e w3 ⟨⟨vf, vb, rfl, hf, hm⟩, hb3⟩
  have HB3 := Below.self_trans HB2 hb3
  have H3 := Lib.hid (row_below H2.out hb3)
  have hlt2 := (Array.getElem?_eq_some_iff.1 H2.out).1
  obtain ⟨af, cf, rfl, -, -, -⟩ := owned_slice hf
  obtain ⟨gb, cb, rfl, m1, m2⟩ := id hm
  have HF := Lib.hid hf
  have HM := Lib.hid hm
  clear hf hm hb3 m1 m2 HB2 H2 HC2
  have HX := (Below.refl w3.heap.size w3).alloc (Nat.le_refl _) (.cells #[.int .i64 st, .string R, .int .i64 1, .slice af L.length cf, .slice (some ⟨gb, 0, none⟩) (bl (R ++ ⟨#[10]⟩)).length cb] 55)
  have H4 := heap_alloc_new w3 (.cells #[.int .i64 st, .string R, .int .i64 1, .slice af L.length cf, .slice (some ⟨gb, 0, none⟩) (bl (R ++ ⟨#[10]⟩)).length cb] 55)
  generalize hBB : bl (R ++ ⟨#[10]⟩) = BB at *
  obtain ⟨⟨c0, c1, c2, c3, c4⟩, ⟨f0, f1, f2, f3, f4⟩, -⟩ := row5 H4
  cases hm : (m.toList == [72, 69, 65, 68]) with
  | false =>
    have HPB : Hid (PB = BB) := Lib.hid (by rw [HP.out, hm]; rfl)
    obtain ⟨⟨d0, d1, d2, d3, d4⟩, ⟨e0, e1, e2, e3, e4⟩, -⟩ := row5 (row_below H3.out HX)
    have HK := Lib.hid (row_below H3.out HX)
    have HF4 := Lib.hid (HF.out.below HX)
    have HM4 := Lib.hid (HM.out.below HX)
    have HB4 := Lib.hid (Below.self_trans HB3 HX)
    clear HX H4 HF HM HB3 HP H3
    go_wp2
    exact fin5g id HK.out (fun w2 c0 c1 c2 c3 c4 => by simp [results, Tryz.results19, go_sem, c0, c1, c2, c3, c4]) rfl (fun w5 hg => ⟨⟨_, _, rfl, OwnF.rd (own_src HF4.out hg (by omega)), by rw [HPB.out]; exact (MutY.src HM4.out hg (by omega)).rd⟩, below_src HB4.out hg (Nat.le_refl _)⟩)
  | true =>
    have HPB : Hid (PB = []) := Lib.hid (by rw [HP.out, hm]; rfl)
    have HX2 := (Below.refl w3.heap.size w3).alloc (Nat.le_refl _) (.cells #[.int .i64 st, .string R, .int .i64 1, .slice af L.length cf, .slice none 0 0] 55)
    have H5 := heap_alloc_new w3 (.cells #[.int .i64 st, .string R, .int .i64 1, .slice af L.length cf, .slice none 0 0] 55)
    have HK := Lib.hid (row_below H3.out HX2)
    have HF4 := Lib.hid (HF.out.below HX2)
    have HB4 := Lib.hid (Below.self_trans HB3 HX2)
    go_upto_region 4 with fail
    clear c0 c1 c2 c3 c4 f0 f1 f2 f3 f4
    generalize (w3.alloc (.cells #[.int .i64 st, .string R, .int .i64 1, .slice af L.length cf, .slice none 0 0] 55)) = w4 at *
    obtain ⟨⟨c0, c1, c2, c3, c4⟩, -, -⟩ := row5 H5
    obtain ⟨⟨d0, d1, d2, d3, d4⟩, ⟨e0, e1, e2, e3, e4⟩, -⟩ := row5 HK.out
    clear HX H4 HF HM HB3 HP H3 HX2 H5
    go_wp2
    exact fin5g id HK.out (fun w2 c0 c1 c2 c3 c4 => by simp [results, Tryz.results19, go_sem, c0, c1, c2, c3, c4]) rfl (fun w5 hg => ⟨⟨_, _, rfl, OwnF.rd (own_src HF4.out hg (by omega)), by rw [HPB.out]; exact RdB_nil _⟩, below_src HB4.out hg (Nat.le_refl _)⟩)

end Go.Proofs.YtfmokccoilgpmaaGreatDoor
