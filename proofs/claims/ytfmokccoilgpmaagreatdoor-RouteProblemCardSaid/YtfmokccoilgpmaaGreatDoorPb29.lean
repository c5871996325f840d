/- The core of RouteProblem. -/
import Derived.Test.YtfmokccoilgpmaaGreatDoorAw29
import Derived.Test.YtfmokccoilgpmaaGreatDoorSame
import Derived.Test.YtfmokccoilgpmaaGreatDoorPB
namespace Go.Proofs.YtfmokccoilgpmaaGreatDoor
open Go.RowKit Go.Own
set_option linter.unusedVariables false
set_option linter.unusedSimpArgs false
set_option maxHeartbeats 4000000
set_option maxRecDepth 100000

def stL : List Int := [400, 408, 413, 431, 502, 503, 504, 505]
def meL : List ByteArray := [⟨#[71, 69, 84]⟩, ⟨#[72, 69, 65, 68]⟩, ⟨#[]⟩]
def stO : Obj := .cells #[.int .i64 400, .int .i64 408, .int .i64 413, .int .i64 431, .int .i64 502, .int .i64 503, .int .i64 504, .int .i64 505] 3
def meO : Obj := .cells #[.string ⟨#[71, 69, 84]⟩, .string ⟨#[72, 69, 65, 68]⟩, .string ⟨#[]⟩] 9
theorem stO_cell (W : World) (k : Nat) (hk : k < 8) : (W.alloc stO).cell? ⟨W.heap.size, k, none⟩ = some (.int .i64 (stL.getD k 0)) := by
  rw [cell_of_row _ _ k _ _ _ (heap_alloc_new W stO)]
  match k, hk with
  | 0, _ => rfl
  | 1, _ => rfl
  | 2, _ => rfl
  | 3, _ => rfl
  | 4, _ => rfl
  | 5, _ => rfl
  | 6, _ => rfl
  | 7, _ => rfl
theorem meO_cell (W : World) (k : Nat) (hk : k < 3) : (W.alloc meO).cell? ⟨W.heap.size, k, none⟩ = some (.string (meL.getD k .empty)) := by
  rw [cell_of_row _ _ k _ _ _ (heap_alloc_new W meO)]
  match k, hk with
  | 0, _ => rfl
  | 1, _ => rfl
  | 2, _ => rfl

theorem of_drewP {w w1 : World} (h : Below w.drew.heap.size w.drew w1) : Below w.heap.size w w1 := ((Below.refl _ _).drew).trans h
theorem arr50 (xs : Array Value) (h : xs.size = 50) : ∃ x0 x1 x2 x3 x4 x5 x6 x7 x8 x9 x10 x11 x12 x13 x14 x15 x16 x17 x18 x19 x20 x21 x22 x23 x24 x25 x26 x27 x28 x29 x30 x31 x32 x33 x34 x35 x36 x37 x38 x39 x40 x41 x42 x43 x44 x45 x46 x47 x48 x49, xs = #[x0, x1, x2, x3, x4, x5, x6, x7, x8, x9, x10, x11, x12, x13, x14, x15, x16, x17, x18, x19, x20, x21, x22, x23, x24, x25, x26, x27, x28, x29, x30, x31, x32, x33, x34, x35, x36, x37, x38, x39, x40, x41, x42, x43, x44, x45, x46, x47, x48, x49] := by
  obtain ⟨l⟩ := xs
  match l, h with
  | x0 :: x1 :: x2 :: x3 :: x4 :: x5 :: x6 :: x7 :: x8 :: x9 :: x10 :: x11 :: x12 :: x13 :: x14 :: x15 :: x16 :: x17 :: x18 :: x19 :: x20 :: x21 :: x22 :: x23 :: x24 :: x25 :: x26 :: x27 :: x28 :: x29 :: x30 :: x31 :: x32 :: x33 :: x34 :: x35 :: x36 :: x37 :: x38 :: x39 :: x40 :: x41 :: x42 :: x43 :: x44 :: x45 :: x46 :: x47 :: x48 :: x49 :: [], _ => exact ⟨x0, x1, x2, x3, x4, x5, x6, x7, x8, x9, x10, x11, x12, x13, x14, x15, x16, x17, x18, x19, x20, x21, x22, x23, x24, x25, x26, x27, x28, x29, x30, x31, x32, x33, x34, x35, x36, x37, x38, x39, x40, x41, x42, x43, x44, x45, x46, x47, x48, x49, rfl⟩
/-- what the operations of the drawn region hand back -/
def spP (st ph j k sv : Int) (jn kn : Nat) (mv : ByteArray) (i : Nat) (v : Value) (W : World) : Prop :=
  match i with
  | 0 => ∃ b, v = .slice (some ⟨b, 0, none⟩) 8 8 ∧ W.cell? ⟨b, jn, none⟩ = some (.int .i64 sv)
  | 1 => v = .int .i64 st
  | 2 => v = .int .i64 j
  | 3 => ∃ b, v = .pointer (some ⟨b, jn, none⟩) ∧ W.cell? ⟨b, jn, none⟩ = some (.int .i64 sv)
  | 4 => v = .int .i64 sv
  | 5 => ∃ b, v = .slice (some ⟨b, 0, none⟩) 3 3 ∧ W.cell? ⟨b, kn, none⟩ = some (.string mv)
  | 6 => v = .int .i64 ph
  | 7 => v = .int .i64 k
  | 8 => ∃ b, v = .pointer (some ⟨b, kn, none⟩) ∧ W.cell? ⟨b, kn, none⟩ = some (.string mv)
  | 9 => v = .string mv
  | 10 => v = .int .i64 sv
  | 11 => v = .string mv
  | _ => True
theorem spP_mono {st ph j k sv : Int} {jn kn : Nat} {mv : ByteArray} : ∀ (i : Nat) (v : Value) (x y : World), Below x.heap.size x y → spP st ph j k sv jn kn mv i v x → spP st ph j k sv jn kn mv i v y := by
  intro i v x y hb h
  match i, h with
  | 0, ⟨b, e, c⟩ => exact ⟨b, e, cell_below hb c⟩
  | 1, h => exact h
  | 2, h => exact h
  | 3, ⟨b, e, c⟩ => exact ⟨b, e, cell_below hb c⟩
  | 4, h => exact h
  | 5, ⟨b, e, c⟩ => exact ⟨b, e, cell_below hb c⟩
  | 6, h => exact h
  | 7, h => exact h
  | 8, ⟨b, e, c⟩ => exact ⟨b, e, cell_below hb c⟩
  | 9, h => exact h
  | 10, h => exact h
  | 11, h => exact h
  | i + 12, h => trivial

theorem routeProblem_core (er ph status : Int) (method : ByteArray) (en raw : Bool) (w : World) (hE : EnvW w) (h1 : In64 er) (h2 : In64 ph) (h3 : In64 status) :
    Calls Tryz.prog 6 #[.int .i64 er, .int .i64 ph, .int .i64 status, .string method, .bool en, .bool raw] w fun e w' => e = .returned (.bool true) ∧ Below w.heap.size w w' := by
  have HB0 := Below.refl w.heap.size w
  go_enter Tryz.func6, Tryz.ntmps6
  go_upto_if 14 with fail
  go_cut [0, 1, 2, 3] (fun s0 s1 s2 s3 wx => ∃ (er ph st : Int) (m : ByteArray), s0 = .int .i64 er ∧ s1 = .int .i64 ph ∧ s2 = .int .i64 st ∧ s3 = .string m ∧ Below w.heap.size w wx)
  case first =>
    cases raw with
    | true =>
      go_wp2_with fail
      go_meet
      case rel => exact ⟨er, ph, status, method, rfl, rfl, rfl, rfl, HB0⟩
    | false =>
      go_wp2_with fail
      refine (within_calls er 11 _ h1 (by omega) (by omega)).mono ?_
      rintro e w1 ⟨rfl, rfl⟩
      go_wp2_with fail
      refine (within_calls ph 3 _ h2 (by omega) (by omega)).mono ?_
      rintro e w1 ⟨rfl, rfl⟩
      obtain ⟨b1, b2⟩ := within_bd ph 3 (by omega)
      have hp2 : In64 (within ph 3) := ⟨by omega, by omega⟩
      have CW2 := Lib.hid (fun w => within_calls (within ph 3) 3 w hp2 (by omega) (by omega))
      have CW1 := Lib.hid (fun w => within_calls status 8 w h3 (by omega) (by omega))
      obtain ⟨k, hk⟩ := Int.eq_ofNat_of_zero_le (within_bd (within ph 3) 3 (by omega)).1
      have hk3 := (within_bd (within ph 3) 3 (by omega)).2
      obtain ⟨j, hj⟩ := Int.eq_ofNat_of_zero_le (within_bd status 8 (by omega)).1
      have hj8 := (within_bd status 8 (by omega)).2
      rw [hk] at CW2 hk3
      rw [hj] at CW1 hj8
      generalize within ph 3 = p3 at *
      generalize within er 11 = e11 at *
      have S1 := Lib.hid (fun W => stO_cell W j (by omega))
      have M1 := Lib.hid (fun W => meO_cell W k (by omega))
      unfold stO at S1
      unfold meO at M1
      generalize stL.getD j 0 = sv at *
      generalize meL.getD k .empty = mv at *
      clear hk hj b1 b2 hp2 h1 h2 h3
      have hjI : (j : Int) < 8 := hj8
      have hkI : (k : Int) < 3 := hk3
      go_upto_region 3 with fail
      refine wp_region_specL_lit (Le := fun x y => Below x.heap.size x y) (Sp := spP status p3 j k sv j k mv) rfl (by kernel_rfl) (fun x y z h1 h2 => Below.self_trans h1 h2) spP_mono (fun x => Below.refl _ _) ⟨?_, ?_, ?_, ?_, ?_, ?_, ?_, ?_, ?_, ?_, ?_, ?_, trivial⟩ ?_
      · refine stepOkL_val fun a w' hle hk hq hp => ⟨rfl, .slice (some ⟨w'.heap.size, 0, none⟩) 8 8, w'.alloc stO, ?_, (Below.refl _ _).alloc (Nat.le_refl _) _, ⟨_, rfl, S1.out w'⟩⟩
        clear hp hk hq hle
        simp [execOp, go_sem, stO]
      · refine stepOkL_val fun a w' hle hk hq hp => ⟨rfl, .int .i64 status, w', ?_, Below.refl _ _, rfl⟩
        have h5 := ev (late_eval (s := 2) hq (by kernel_rfl))
        simp at h5
        clear hp hk hq hle
        simp [execOp, go_sem, h5]
      · refine stepOkL_call fun a w' hle hk hq hp => ⟨rfl, 14, #[.int .i64 status, .int .i64 8], ?_, (CW1.out w').mono fun e w'' ⟨he, hw⟩ => ⟨_, he, by rw [hw]; exact Below.refl _ _, rfl⟩⟩
        have g0 := ev (show a.eval (.tmp 20) = .int .i64 status from hp 1 _ rfl rfl)
        clear hp hk hq hle
        simp [execOp, go_sem, g0]
      · refine stepOkL_val fun a w' hle hk hq hp => ?_
        obtain ⟨b, hb0, hb1⟩ := (show ∃ b, a.eval (.tmp 19) = .slice (some ⟨b, 0, none⟩) 8 8 ∧ w'.cell? ⟨b, j, none⟩ = some (.int .i64 sv) from hp 0 _ rfl rfl)
        have g0 := ev hb0
        have g1 := ev (show a.eval (.tmp 21) = .int .i64 j from hp 2 _ rfl rfl)
        refine ⟨rfl, .pointer (some ⟨b, j, none⟩), w', ?_, Below.refl _ _, ⟨b, rfl, hb1⟩⟩
        clear hp hk hq hle
        simp [execOp, go_sem, g0, g1, hjI]
      · refine stepOkL_val fun a w' hle hk hq hp => ⟨rfl, .int .i64 sv, w', ?_, Below.refl _ _, rfl⟩
        obtain ⟨b, hb0, hb1⟩ := (show ∃ b, a.eval (.tmp 22) = .pointer (some ⟨b, j, none⟩) ∧ w'.cell? ⟨b, j, none⟩ = some (.int .i64 sv) from hp 3 _ rfl rfl)
        have g0 := ev hb0
        clear hp hk hq hle
        simp [execOp, go_sem, g0, hb1]
      · refine stepOkL_val fun a w' hle hk hq hp => ⟨rfl, .slice (some ⟨w'.heap.size, 0, none⟩) 3 3, w'.alloc meO, ?_, (Below.refl _ _).alloc (Nat.le_refl _) _, ⟨_, rfl, M1.out w'⟩⟩
        clear hp hk hq hle
        simp [execOp, go_sem, meO]
      · refine stepOkL_val fun a w' hle hk hq hp => ⟨rfl, .int .i64 p3, w', ?_, Below.refl _ _, rfl⟩
        have h5 := ev (kept_eval (s := 1) hk rfl)
        simp at h5
        clear hp hk hq hle
        simp [execOp, go_sem, h5]
      · refine stepOkL_call fun a w' hle hk hq hp => ⟨rfl, 14, #[.int .i64 p3, .int .i64 3], ?_, (CW2.out w').mono fun e w'' ⟨he, hw⟩ => ⟨_, he, by rw [hw]; exact Below.refl _ _, rfl⟩⟩
        have g0 := ev (show a.eval (.tmp 25) = .int .i64 p3 from hp 6 _ rfl rfl)
        clear hp hk hq hle
        simp [execOp, go_sem, g0]
      · refine stepOkL_val fun a w' hle hk hq hp => ?_
        obtain ⟨b, hb0, hb1⟩ := (show ∃ b, a.eval (.tmp 24) = .slice (some ⟨b, 0, none⟩) 3 3 ∧ w'.cell? ⟨b, k, none⟩ = some (.string mv) from hp 5 _ rfl rfl)
        have g0 := ev hb0
        have g1 := ev (show a.eval (.tmp 26) = .int .i64 k from hp 7 _ rfl rfl)
        refine ⟨rfl, .pointer (some ⟨b, k, none⟩), w', ?_, Below.refl _ _, ⟨b, rfl, hb1⟩⟩
        clear hp hk hq hle
        simp [execOp, go_sem, g0, g1, hkI]
      · refine stepOkL_val fun a w' hle hk hq hp => ⟨rfl, .string mv, w', ?_, Below.refl _ _, rfl⟩
        obtain ⟨b, hb0, hb1⟩ := (show ∃ b, a.eval (.tmp 27) = .pointer (some ⟨b, k, none⟩) ∧ w'.cell? ⟨b, k, none⟩ = some (.string mv) from hp 8 _ rfl rfl)
        have g0 := ev hb0
        clear hp hk hq hle
        simp [execOp, go_sem, g0, hb1]
      · refine stepOkL_val fun a w' hle hk hq hp => ⟨rfl, .int .i64 sv, w', ?_, Below.refl _ _, rfl⟩
        have g0 := ev (show a.eval (.tmp 23) = .int .i64 sv from hp 4 _ rfl rfl)
        clear hp hk hq hle
        simp [execOp, go_sem, g0]
      · refine stepOkL_val fun a w' hle hk hq hp => ⟨rfl, .string mv, w', ?_, Below.refl _ _, rfl⟩
        have g0 := ev (show a.eval (.tmp 28) = .string mv from hp 9 _ rfl rfl)
        clear hp hk hq hle
        simp [execOp, go_sem, g0]
      · intro a w' hle hk hp
        obtain ⟨tm, df⟩ := a
        obtain ⟨x0, x1, x2, x3, x4, x5, x6, x7, x8, x9, x10, x11, x12, x13, x14, x15, x16, x17, x18, x19, x20, x21, x22, x23, x24, x25, x26, x27, x28, x29, x30, x31, x32, x33, x34, x35, x36, x37, x38, x39, x40, x41, x42, x43, x44, x45, x46, x47, x48, x49, rfl⟩ := arr50 tm hk.2.1
        have q2 : x2 = .int .i64 sv := hp 10 _ rfl
        have q3 : x3 = .string mv := hp 11 _ rfl
        have q0 : x0 = .int .i64 e11 := hk.2.2 0 rfl
        have q1 : x1 = .int .i64 p3 := hk.2.2 1 rfl
        have q4 : x4 = .bool en := hk.2.2 4 rfl
        have q5 : x5 = .bool false := hk.2.2 5 rfl
        have q6 : x6 = undef := hk.2.2 6 rfl
        have q7 : x7 = undef := hk.2.2 7 rfl
        have q8 : x8 = undef := hk.2.2 8 rfl
        have q9 : x9 = undef := hk.2.2 9 rfl
        have q10 : x10 = undef := hk.2.2 10 rfl
        have q11 : x11 = undef := hk.2.2 11 rfl
        have q12 : x12 = .bool false := hk.2.2 12 rfl
        have qd : df = [] := hk.1
        have HBW := Lib.hid (Below.self_trans HB0 (of_drewP hle))
        subst q0 q1 q2 q3 q4 q5 q6 q7 q8 q9 q10 q11 q12 qd
        clear hp hk hle
        simp only [Exit.then]
        apply_assumption
        go_meet
        case rel => exact ⟨_, _, _, _, rfl, rfl, rfl, rfl, HBW.out⟩
  case rest =>
  obtain ⟨e0, p0, st, m, rfl, rfl, rfl, rfl, HB1⟩ := hcut
  have C1 := Lib.hid (fun w => pro_refusal_calls e0 p0 w)
  have C2 := Lib.hid (fun w => ref_refusal_calls e0 p0 w)
  have C3 := Lib.hid (fun w hE => pro_problem_calls st m en w hE)
  have C4 := Lib.hid (fun w hE => ref_problem_calls st m en w hE)
  have C5 := Lib.hid (fun w hE => awake29_calls w hE)
  have CS := Lib.hid (fun r va va' vb vb' l b w Ha Ha' Hb Hb' => sameRep_calls st r 1 va va' vb vb' l b w Ha Ha' Hb Hb')
  generalize refuseI e0 p0 = rf at *
  generalize probB (reasonOf st) m = PB at *
  generalize makeF sTP ((reasonOf st).size + 1) (closeL en) = L at *
  generalize reasonOf st = R at *
  have HE := Lib.hid hE
  clear hE HB0 h1 h2 h3
  go_wp2_with fail
  refine (C1.out _).mono ?_
  rintro e w1 ⟨rfl, rfl⟩
  go_wp2_with fail
  refine (C2.out _).mono ?_
  rintro e w1 ⟨rfl, rfl⟩
  have hrf : (rf == rf) = true := by simp
  go_wp2_with fail
  refine (C3.out _ (HE.out.below HB1)).mono ?_
  rintro e w1 ⟨⟨vf1, vb1, rfl, G1, G2⟩, hb1⟩
  have HB2 := Below.self_trans HB1 hb1
  clear hb1 HB1
  go_wp2_with fail
  refine (C4.out _ (HE.out.below HB2)).mono ?_
  rintro e w2 ⟨⟨vf2, vb2, rfl, G3, G4⟩, hb2⟩
  have HB3 := Below.self_trans HB2 hb2
  have G1 := RdF.below G1 hb2
  have G2 := RdB.below G2 hb2
  clear hb2 HB2
  go_wp2_with fail
  refine (CS.out _ _ _ _ _ _ _ _ G1 G3 G2 G4).mono ?_
  rintro e w3 ⟨rfl, hb3⟩
  have HB4 := Below.self_trans HB3 hb3
  clear G1 G2 G3 G4 hb3 HB3
  go_wp2_with fail
  refine (C5.out _ (HE.out.p.below HB4)).mono ?_
  rintro e w4 ⟨rfl, hb4⟩
  have HB5 := Below.self_trans HB4 hb4
  go_wp2
  go_ret
  exact ⟨rfl, HB5⟩
end Go.Proofs.YtfmokccoilgpmaaGreatDoor
