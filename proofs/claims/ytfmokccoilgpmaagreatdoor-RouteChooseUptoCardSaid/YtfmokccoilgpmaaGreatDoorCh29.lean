/- The core of RouteChoose. -/
import Derived.Test.YtfmokccoilgpmaaGreatDoorNc29
namespace Go.Proofs.YtfmokccoilgpmaaGreatDoor
open Go.RowKit Go.Own
set_option linter.unusedVariables false
set_option linter.unusedSimpArgs false
set_option maxHeartbeats 4000000
set_option maxRecDepth 100000

theorem refChooseC_calls (c : Cf) (vw vig : Value) (CA : Array Value) (hCA : CA = (c.cells vw vig).toArray) (st sg he t er ag : Int) (va : Value) (l : List Fld) (draw serial : Int) (w : World) (hE : EnvP w)
    (Hp : RdI w vw c.P.ws) (Ha : RdF w va l) (hl : fsize l ≤ 2000000) (hsalt : c.salt.size ≤ 1) (hd : In64 draw) (hs : In64 serial) :
    Calls Tryz.prog 10 #[.agg CA, .agg #[.int .i64 st, .int .i64 sg, .int .i64 he, .int .i64 t, .int .i64 er, .int .i64 ag], va, .int .i64 draw, .int .i64 serial] w fun e w' => e = .returned (routeV c.salt (rollW st sg c.P) (findP (pairsS (valuesS l cookieS)) ⟨#[99, 111, 104, 111, 114, 116]⟩) (nidOf draw serial)) ∧ Below w.heap.size w w' := by
  subst hCA
  exact refChoose_calls c.a0 c.a1 c.a2 c.a3 c.a4 c.a5 c.a6 c.a7 c.a8 c.a9 c.a10 c.a11 c.a12 c.a13 c.a14 c.a15 c.P vw c.salt ⟨#[99, 111, 104, 111, 114, 116]⟩ c.mir vig st sg he t er ag va l draw serial w hE Hp Ha hl (by unfold maxLen; omega) hd hs
/-- where the law stands: what made handed back, and the fields in use -/
structure RcA (w W : World) (z : Nat) (CA : Array Value) (q1 q2 q3 q4 q5 q6 : Int) (vw : Value) (ws : List Int) (v : Value) (x : List Fld) : Prop where
  conf : W.heap[z]? = some (.cells CA 28)
  roll : W.heap[z + 1]? = some (rollO q1 q2 q3 q4 q5 q6)
  req : ∃ mm t n fr vy, W.heap[z + 1 + 1]? = some (reqO mm t n v fr vy)
  hb : Below w.heap.size w W
  pl : RdI W vw ws
  fl : RdF W v x
theorem RcA.put {w W : World} {z : Nat} {CA : Array Value} {q1 q2 q3 q4 q5 q6 : Int} {vw : Value} {ws : List Int} {v v2 : Value} {x x2 : List Fld} (h : RcA w W z CA q1 q2 q3 q4 q5 q6 vw ws v x) (hz : w.heap.size ≤ z) (hf : RdF w v2 x2) (w1 : World) (h1 : Below w.heap.size w w1) (hz1 : z = w1.heap.size) (hpl : RdI w1 vw ws) (hb1 : Below w1.heap.size w1 W) : RcA w (W.setCell ⟨z + 1 + 1, 3, none⟩ v2) z CA q1 q2 q3 q4 q5 q6 vw ws v2 x2 := by
  have hgs := grown_set W (z + 1 + 1) 3 v2
  have hb2 := below_src hb1 hgs (by omega)
  obtain ⟨mm, t, n, fr, vy, hr⟩ := h.req
  exact ⟨grown_at hgs h.conf (by omega), grown_at hgs h.roll (by omega), ⟨mm, t, n, fr, vy, (heap_setCell_same W _ 3 _ _ _ hr).trans (by simp [reqO])⟩, Below.self_trans h1 hb2, hpl.below hb2, hf.below (Below.self_trans h1 hb2)⟩
theorem arr49 (xs : Array Value) (h : xs.size = 49) : ∃ x0 x1 x2 x3 x4 x5 x6 x7 x8 x9 x10 x11 x12 x13 x14 x15 x16 x17 x18 x19 x20 x21 x22 x23 x24 x25 x26 x27 x28 x29 x30 x31 x32 x33 x34 x35 x36 x37 x38 x39 x40 x41 x42 x43 x44 x45 x46 x47 x48, xs = #[x0, x1, x2, x3, x4, x5, x6, x7, x8, x9, x10, x11, x12, x13, x14, x15, x16, x17, x18, x19, x20, x21, x22, x23, x24, x25, x26, x27, x28, x29, x30, x31, x32, x33, x34, x35, x36, x37, x38, x39, x40, x41, x42, x43, x44, x45, x46, x47, x48] := by
  obtain ⟨l⟩ := xs
  match l, h with
  | x0 :: x1 :: x2 :: x3 :: x4 :: x5 :: x6 :: x7 :: x8 :: x9 :: x10 :: x11 :: x12 :: x13 :: x14 :: x15 :: x16 :: x17 :: x18 :: x19 :: x20 :: x21 :: x22 :: x23 :: x24 :: x25 :: x26 :: x27 :: x28 :: x29 :: x30 :: x31 :: x32 :: x33 :: x34 :: x35 :: x36 :: x37 :: x38 :: x39 :: x40 :: x41 :: x42 :: x43 :: x44 :: x45 :: x46 :: x47 :: x48 :: [], _ => exact ⟨x0, x1, x2, x3, x4, x5, x6, x7, x8, x9, x10, x11, x12, x13, x14, x15, x16, x17, x18, x19, x20, x21, x22, x23, x24, x25, x26, x27, x28, x29, x30, x31, x32, x33, x34, x35, x36, x37, x38, x39, x40, x41, x42, x43, x44, x45, x46, x47, x48, rfl⟩
def spC (CA : Array Value) (roll sl rt : Value) (draw serial : Int) (z : Nat) (i : Nat) (v : Value) (W : World) : Prop :=
  match i with
  | 0 => v = .agg CA
  | 1 => v = roll
  | 2 => v = .pointer (some ⟨z + 1 + 1, 3, none⟩)
  | 3 => v = sl
  | 4 => v = .int .i64 draw
  | 5 => v = .int .i64 serial
  | 6 => v = rt
  | 7 => v = .agg CA
  | 8 => v = roll
  | 9 => v = .pointer (some ⟨z + 1 + 1, 3, none⟩)
  | 10 => v = sl
  | 11 => v = .int .i64 draw
  | 12 => v = .int .i64 serial
  | 13 => v = rt
  | 14 => v = .bool true
  | 15 => v = .bool true
  | 16 => v = .bool true
  | 17 => v = .bool true
  | 18 => v = .bool true
  | _ => True

theorem routeChoose_core (va vb : Value) (l m : List Int) (vr : Value) (raw : List Fld) (draw serial : Int) (wild : Bool) (w : World) (hE : EnvP w) (h1 : RdI w va l) (h2 : RdI w vb m) (hR : RdF w vr raw) (hRl : fsize raw ≤ 2000000) (hd : In64 draw) (hs : In64 serial) :
    Calls Tryz.prog 3 #[va, vb, vr, .int .i64 draw, .int .i64 serial, .bool wild] w fun e w' => e = .returned (.bool true) ∧ Below w.heap.size w w' := by
  have HM := Lib.hid (made29_calls va vb l m w h1 h2)
  obtain ⟨ar, cr, rfl, -, -, -, -⟩ := id hR
  have HRW := Lib.hid hR
  clear hR
  go_enter Tryz.func3, Tryz.ntmps3
  go_wp2_with fail
  refine HM.out.mono ?_
  rintro e w1 ⟨⟨C, vw, vig, q1, q2, q3, q4, q5, q6, mm, t, n, vf, x, fr, vy, b, rfl, hpw, ⟨hsalt, hvig⟩, hrq, hrf, hry⟩, hb1⟩
  have hvw : vw.oneCell' = true := by obtain ⟨⟨a, c, rfl, -⟩, -⟩ := hpw; rfl
  obtain ⟨CA, hCA⟩ : ∃ CA : Array Value, CA = (C.cells vw vig).toArray := ⟨_, rfl⟩
  obtain ⟨af, cf, rfl, -, -, -, -⟩ := id hrf
  obtain ⟨ay, cy, rfl, -, -, -, -⟩ := id hry
  have hfa := Lib.hid (cfFacts C vw vig hvw hvig)
  rw [← hCA] at hfa ⊢
  have HCA := Lib.hid hCA
  clear hCA
  have hi26 := Lib.hid (show (Tryz.prog.info? 28).map (·.size) = some CA.size by rw [hfa.out.1]; kernel_rfl)
  have H3 := Lib.hid (three_at w1 #[.int .i64 0, .int .i64 0, .int .i64 0, .int .i64 0, .int .i64 0, .int .i64 0, .int .i64 0, .int .i64 0, .int .i64 0, .int .i64 0, .int .i64 0, .int .i64 0, .int .i64 0, .int .i64 0, .int .i64 0, .int .i64 0, .slice none 0 0, .int .i64 0, .int .i64 0, .int .i64 0, .int .i64 0, .int .i64 0, .string ⟨#[]⟩, .string ⟨#[]⟩, .bool false, .slice none 0 0] #[.int .i64 0, .int .i64 0, .int .i64 0, .int .i64 0, .int .i64 0, .int .i64 0] #[.string ⟨#[]⟩, .string ⟨#[]⟩, .int .i64 0, .slice none 0 0, .bool false, .slice none 0 0] CA #[.int .i64 q1, .int .i64 q2, .int .i64 q3, .int .i64 q4, .int .i64 q5, .int .i64 q6] 28 32 35)
  have HM3 := Lib.hid (fun W hW => three_rows w1 #[.int .i64 0, .int .i64 0, .int .i64 0, .int .i64 0, .int .i64 0, .int .i64 0, .int .i64 0, .int .i64 0, .int .i64 0, .int .i64 0, .int .i64 0, .int .i64 0, .int .i64 0, .int .i64 0, .int .i64 0, .int .i64 0, .slice none 0 0, .int .i64 0, .int .i64 0, .int .i64 0, .int .i64 0, .int .i64 0, .string ⟨#[]⟩, .string ⟨#[]⟩, .bool false, .slice none 0 0] #[.int .i64 0, .int .i64 0, .int .i64 0, .int .i64 0, .int .i64 0, .int .i64 0] #[.string ⟨#[]⟩, .string ⟨#[]⟩, .int .i64 0, .slice none 0 0, .bool false, .slice none 0 0] CA #[.int .i64 q1, .int .i64 q2, .int .i64 q3, .int .i64 q4, .int .i64 q5, .int .i64 q6] #[.string mm, .string t, .int .i64 n, .slice af x.length cf, .bool fr, .slice ay b.length cy] 28 32 35 W hW)
  have HPW := Lib.hid hpw
  have HRF := Lib.hid hrf
  have HB1 := Lib.hid hb1
  clear hry hvw HM hpw hrf hb1
  go_upto_region 2 with (first
    | (refine wpList_store_row (o := ⟨none, _, _, _, _, _⟩) rfl 28 (.tmp 13) (.tmp 20) rfl w1.heap.size CA rfl rfl 28 _ H3.out.1 hi26.out hfa.out.1.symm hfa.out.2.1 ?_; simp only [Act.put])
    | (refine wpList_store_row (o := ⟨none, _, _, _, _, _⟩) rfl 32 (.tmp 14) (.tmp 21) rfl (w1.heap.size + 1) #[.int .i64 q1, .int .i64 q2, .int .i64 q3, .int .i64 q4, .int .i64 q5, .int .i64 q6] rfl rfl 32 _ H3.out.2.1 (by kernel_rfl) rfl (by kernel_rfl) ?_; simp only [Act.put])
    | (refine wpList_store_row (o := ⟨none, _, _, _, _, _⟩) rfl 35 (.tmp 15) (.tmp 22) rfl (w1.heap.size + 1 + 1) #[.string mm, .string t, .int .i64 n, .slice af x.length cf, .bool fr, .slice ay b.length cy] rfl rfl 35 _ H3.out.2.2 (by kernel_rfl) rfl (by kernel_rfl) ?_; simp only [Act.put]))
  have M3 := HM3.out _ rfl
  clear HM3 H3
  generalize ((((((w1.alloc (.cells #[.int .i64 0, .int .i64 0, .int .i64 0, .int .i64 0, .int .i64 0, .int .i64 0, .int .i64 0, .int .i64 0, .int .i64 0, .int .i64 0, .int .i64 0, .int .i64 0, .int .i64 0, .int .i64 0, .int .i64 0, .int .i64 0, .slice none 0 0, .int .i64 0, .int .i64 0, .int .i64 0, .int .i64 0, .int .i64 0, .string ⟨#[]⟩, .string ⟨#[]⟩, .bool false, .slice none 0 0] 28)).alloc (.cells #[.int .i64 0, .int .i64 0, .int .i64 0, .int .i64 0, .int .i64 0, .int .i64 0] 32)).alloc (.cells #[.string ⟨#[]⟩, .string ⟨#[]⟩, .int .i64 0, .slice none 0 0, .bool false, .slice none 0 0] 35)).setRow w1.heap.size CA).setRow (w1.heap.size + 1) #[.int .i64 q1, .int .i64 q2, .int .i64 q3, .int .i64 q4, .int .i64 q5, .int .i64 q6]).setRow (w1.heap.size + 1 + 1) #[.string mm, .string t, .int .i64 n, .slice af x.length cf, .bool fr, .slice ay b.length cy]) = w2 at *
  have HA : Md3 w1 w2 CA q1 q2 q3 q4 q5 q6 mm t n (.slice af x.length cf) fr (.slice ay b.length cy) := ⟨M3.1, M3.2.1, M3.2.2.1, M3.2.2.2⟩
  have HB2 := Lib.hid (Below.self_trans HB1.out HA.hb)
  have HPW2 := Lib.hid (HPW.out.below HA.hb)
  have HRF2 := Lib.hid (HRF.out.below HA.hb)
  have HRC : RcA w w2 w1.heap.size CA q1 q2 q3 q4 q5 q6 vw C.P.ws (.slice af x.length cf) x := ⟨HA.conf, HA.roll, ⟨_, _, _, _, _, HA.req⟩, HB2.out, HPW2.out, HRF2.out⟩
  have HPUT := Lib.hid (fun hf => HRC.put HB1.out.size (v2 := .slice ar raw.length cr) (x2 := raw) hf w1 HB1.out rfl HPW.out HA.hb)
  have HRW2 := Lib.hid (HRW.out.below HB2.out)
  have HRC := Lib.hid HRC
  have HFS := Lib.hid (reqP_fsize hrq)
  have hreq := HA.req
  clear M3 HA HPW HRF HB1 HPW2 HRF2
  generalize w1.heap.size = z at *
  unfold reqO at hreq
  obtain ⟨⟨d0, d1, d2, d3, d4, d5⟩, ⟨f0, f1, f2, f3, f4, f5⟩, -⟩ := row6 hreq
  clear hreq
  go_upto_if 23 with fail
  go_cut [3, 4, 12, 13, 14, 15] (fun s3 s4 s12 s13 s14 s15 wx => s3 = .int .i64 draw ∧ s4 = .int .i64 serial ∧ s12 = .bool false ∧ s13 = .pointer (some ⟨z, 0, none⟩) ∧ s14 = .pointer (some ⟨z + 1, 0, none⟩) ∧ s15 = .pointer (some ⟨z + 1 + 1, 0, none⟩) ∧ ∃ (ay : Option Addr) (cy : Nat) (y : List Fld), fsize y ≤ 2000000 ∧ RcA w wx z CA q1 q2 q3 q4 q5 q6 vw C.P.ws (.slice ay y.length cy) y)
  case first =>
    cases wild with
    | true =>
      go_wp2_with fail
      go_meet
      case rel => exact ⟨rfl, rfl, rfl, rfl, rfl, rfl, ar, cr, raw, hRl, HPUT.out HRW.out⟩
    | false =>
      go_wp2_with fail
      go_meet
      case rel => exact ⟨rfl, rfl, rfl, rfl, rfl, rfl, af, cf, x, by have := HFS.out; omega, HRC.out⟩
  case rest =>
  obtain ⟨rfl, rfl, rfl, rfl, rfl, rfl, a, c, y, hfy, HRY⟩ := hcut
  have HRY := Lib.hid HRY
  have HFY := Lib.hid hfy
  clear HPUT HRW HRW2 HRC HFS d0 d1 d2 d3 d4 d5 f0 f1 f2 f3 f4 f5 hfy hRl

  have HE := Lib.hid hE
  obtain ⟨mm2, t2, n2, fr2, vy2, hrq⟩ := HRY.out.req
  have HRQ := Lib.hid hrq
  unfold reqO at hrq
  obtain ⟨⟨d0, d1, d2, d3, d4, d5⟩, ⟨f0, f1, f2, f3, f4, f5⟩, -⟩ := row6 hrq
  have hroll := HRY.out.roll
  unfold rollO at hroll
  have HROLL := Lib.hid hroll
  obtain ⟨kk, ci, nw, hrv⟩ : ∃ kk ci nw, routeV C.salt (rollW q1 q2 C.P) (findP (pairsS (valuesS y cookieS)) ⟨#[99, 111, 104, 111, 114, 116]⟩) (nidOf draw serial) = .agg #[.int .i64 kk, .string ci, .bool nw] := ⟨_, _, _, rfl⟩
  have HC1 := fun W (hb : Below wc.heap.size wc W) => chooseC_calls C vw vig CA HCA.out q1 q2 q3 q4 q5 q6 _ y draw serial W (hE.below (Below.self_trans HRY.out.hb hb)) (HRY.out.pl.below hb) (HRY.out.fl.below hb) HFY.out hsalt hd hs
  have HC2 := fun W (hb : Below wc.heap.size wc W) => refChooseC_calls C vw vig CA HCA.out q1 q2 q3 q4 q5 q6 _ y draw serial W (hE.below (Below.self_trans HRY.out.hb hb)) (HRY.out.pl.below hb) (HRY.out.fl.below hb) HFY.out hsalt hd hs
  have HC3 := Lib.hid (fun W (hb : Below wc.heap.size wc W) => awake29_calls W (hE.below (Below.self_trans HRY.out.hb hb)))
  rw [hrv] at HC1 HC2
  have HC1 := Lib.hid HC1
  have HC2 := Lib.hid HC2
  clear hrv hroll hrq hE hd hs hsalt h1 h2
  by_cases h30 : (30 : Int) < (y.length : Int)
  · go_wp2_with fail
    refine (HC3.out _ (Below.refl _ _)).mono ?_
    rintro e w5 ⟨rfl, hb5⟩
    have HB5 := Lib.hid (Below.self_trans HRY.out.hb hb5)
    go_wp2
    go_ret
    exact ⟨rfl, HB5.out⟩
  · go_upto_region 6 with fail
    refine wp_region_specL_lit (Le := fun x y => Below x.heap.size x y) (Sp := spC CA (.agg #[.int .i64 q1, .int .i64 q2, .int .i64 q3, .int .i64 q4, .int .i64 q5, .int .i64 q6]) (.slice a y.length c) (.agg #[.int .i64 kk, .string ci, .bool nw]) draw serial z) rfl (by kernel_rfl) (fun x y z h1 h2 => Below.self_trans h1 h2) (by rintro (_ | _ | _ | _ | _ | _ | _ | _ | _ | _ | _ | _ | _ | _ | _ | _ | _ | _ | _ | i) v x y hb h <;> exact h) (fun x => Below.refl _ _) ⟨?_, ?_, ?_, ?_, ?_, ?_, ?_, ?_, ?_, ?_, ?_, ?_, ?_, ?_, ?_, ?_, ?_, ?_, ?_, trivial⟩ ?_
    · refine stepOkL_val fun a w' hle hk hq hp => ⟨rfl, _, w', run_load_row _ rfl (kept_eval (s := 13) hk rfl) (row_below HRY.out.conf (of_drewR hle)) Tryz.underlying28 rfl hi26.out, Below.refl _ _, rfl⟩
    · refine stepOkL_val fun a w' hle hk hq hp => ⟨rfl, _, w', run_load_row _ rfl (kept_eval (s := 14) hk rfl) (row_below HROLL.out (of_drewR hle)) Tryz.underlying32 rfl (by kernel_rfl), Below.refl _ _, rfl⟩
    · refine stepOkL_val fun a w' hle hk hq hp => ⟨rfl, _, w', ?_, Below.refl _ _, rfl⟩
      have g0 := ev (kept_eval (s := 15) hk rfl)
      simp at g0
      clear hp hk hq hle
      simp [execOp, go_sem, g0]
    · refine stepOkL_val fun a w' hle hk hq hp => ⟨rfl, _, w', ?_, Below.refl _ _, rfl⟩
      have g0 := ev (show a.eval (.tmp 33) = _ from hp 2 _ rfl rfl)
      have e3 := cell_below (of_drewR hle) d3
      clear hp hk hq hle
      simp [execOp, go_sem, g0, e3]
    · refine stepOkL_val fun a w' hle hk hq hp => ⟨rfl, _, w', ?_, Below.refl _ _, rfl⟩
      have g0 := ev (kept_eval (s := 3) hk rfl)
      simp at g0
      clear hp hk hq hle
      simp [execOp, go_sem, g0]
    · refine stepOkL_val fun a w' hle hk hq hp => ⟨rfl, _, w', ?_, Below.refl _ _, rfl⟩
      have g0 := ev (kept_eval (s := 4) hk rfl)
      simp at g0
      clear hp hk hq hle
      simp [execOp, go_sem, g0]
    · refine stepOkL_call fun a w' hle hk hq hp => ⟨rfl, _, _, ?_, (HC1.out w' (of_drewR hle)).mono fun e w'' ⟨he, hw⟩ => ⟨_, he, hw, rfl⟩⟩
      have g0 := ev (show a.eval (.tmp 31) = _ from hp 0 _ rfl rfl)
      have g1 := ev (show a.eval (.tmp 32) = _ from hp 1 _ rfl rfl)
      have g2 := ev (show a.eval (.tmp 34) = _ from hp 3 _ rfl rfl)
      have g3 := ev (show a.eval (.tmp 35) = _ from hp 4 _ rfl rfl)
      have g4 := ev (show a.eval (.tmp 36) = _ from hp 5 _ rfl rfl)
      clear hp hk hq hle
      simp [execOp, go_sem, g0, g1, g2, g3, g4]
    · refine stepOkL_val fun a w' hle hk hq hp => ⟨rfl, _, w', run_load_row _ rfl (kept_eval (s := 13) hk rfl) (row_below HRY.out.conf (of_drewR hle)) Tryz.underlying28 rfl hi26.out, Below.refl _ _, rfl⟩
    · refine stepOkL_val fun a w' hle hk hq hp => ⟨rfl, _, w', run_load_row _ rfl (kept_eval (s := 14) hk rfl) (row_below HROLL.out (of_drewR hle)) Tryz.underlying32 rfl (by kernel_rfl), Below.refl _ _, rfl⟩
    · refine stepOkL_val fun a w' hle hk hq hp => ⟨rfl, _, w', ?_, Below.refl _ _, rfl⟩
      have g0 := ev (kept_eval (s := 15) hk rfl)
      simp at g0
      clear hp hk hq hle
      simp [execOp, go_sem, g0]
    · refine stepOkL_val fun a w' hle hk hq hp => ⟨rfl, _, w', ?_, Below.refl _ _, rfl⟩
      have g0 := ev (show a.eval (.tmp 40) = _ from hp 9 _ rfl rfl)
      have e3 := cell_below (of_drewR hle) d3
      clear hp hk hq hle
      simp [execOp, go_sem, g0, e3]
    · refine stepOkL_val fun a w' hle hk hq hp => ⟨rfl, _, w', ?_, Below.refl _ _, rfl⟩
      have g0 := ev (kept_eval (s := 3) hk rfl)
      simp at g0
      clear hp hk hq hle
      simp [execOp, go_sem, g0]
    · refine stepOkL_val fun a w' hle hk hq hp => ⟨rfl, _, w', ?_, Below.refl _ _, rfl⟩
      have g0 := ev (kept_eval (s := 4) hk rfl)
      simp at g0
      clear hp hk hq hle
      simp [execOp, go_sem, g0]
    · refine stepOkL_call fun a w' hle hk hq hp => ⟨rfl, _, _, ?_, (HC2.out w' (of_drewR hle)).mono fun e w'' ⟨he, hw⟩ => ⟨_, he, hw, rfl⟩⟩
      have g0 := ev (show a.eval (.tmp 38) = _ from hp 7 _ rfl rfl)
      have g1 := ev (show a.eval (.tmp 39) = _ from hp 8 _ rfl rfl)
      have g2 := ev (show a.eval (.tmp 41) = _ from hp 10 _ rfl rfl)
      have g3 := ev (show a.eval (.tmp 42) = _ from hp 11 _ rfl rfl)
      have g4 := ev (show a.eval (.tmp 43) = _ from hp 12 _ rfl rfl)
      clear hp hk hq hle
      simp [execOp, go_sem, g0, g1, g2, g3, g4]
    · refine stepOkL_val fun a w' hle hk hq hp => ⟨rfl, .bool true, w', ?_, Below.refl _ _, rfl⟩
      have g0 := ev (show a.eval (.tmp 37) = _ from hp 6 _ rfl rfl)
      have g1 := ev (show a.eval (.tmp 44) = _ from hp 13 _ rfl rfl)
      clear hp hk hq hle
      simp [execOp, go_sem, g0, g1]
    · refine stepOkL_val fun a w' hle hk hq hp => ⟨rfl, .bool true, w', ?_, Below.refl _ _, rfl⟩
      have g0 := ev (show a.eval (.tmp 45) = _ from hp 14 _ rfl rfl)
      clear hp hk hq hle
      simp [execOp, go_sem, g0]
    · refine stepOkL_call fun a w' hle hk hq hp => ⟨wanted_of rfl rfl (hp 15 _ rfl rfl), _, _, ?_, (HC3.out w' (of_drewR hle)).mono fun e w'' ⟨he, hw⟩ => ⟨_, he, hw, rfl⟩⟩
      clear hp hk hq hle
      simp [execOp, go_sem]
    · refine stepOkL_val fun a w' hle hk hq hp => ⟨rfl, .bool true, w', ?_, Below.refl _ _, rfl⟩
      have g0 := ev (show a.eval (.tmp 46) = _ from hp 15 _ rfl rfl)
      have g1 := ev (show a.eval (.tmp 47) = _ from hp 16 _ rfl rfl)
      clear hp hk hq hle
      simp [execOp, go_sem, g0, g1]
    · refine stepOkL_val fun a w' hle hk hq hp => ⟨rfl, .bool true, w', ?_, Below.refl _ _, rfl⟩
      have g0 := ev (show a.eval (.tmp 48) = _ from hp 17 _ rfl rfl)
      clear hp hk hq hle
      simp [execOp, go_sem, g0]
    · intro a w' hle hk hp
      obtain ⟨tm, df⟩ := a
      obtain ⟨x0, x1, x2, x3, x4, x5, x6, x7, x8, x9, x10, x11, x12, x13, x14, x15, x16, x17, x18, x19, x20, x21, x22, x23, x24, x25, x26, x27, x28, x29, x30, x31, x32, x33, x34, x35, x36, x37, x38, x39, x40, x41, x42, x43, x44, x45, x46, x47, x48, rfl⟩ := arr49 tm hk.2.1
      have q12 : x12 = .bool true := hp 18 _ rfl
      have qd : df = [] := hk.1
      have HBW := Lib.hid (Below.self_trans HRY.out.hb (of_drewR hle))
      subst q12 qd
      clear hp hk hle HC1 HC2 HC3 HRY HRQ HROLL
      simp only [Exit.then]
      apply_assumption
      go_wp2
      go_ret
      exact ⟨rfl, HBW.out⟩
end Go.Proofs.YtfmokccoilgpmaaGreatDoor
