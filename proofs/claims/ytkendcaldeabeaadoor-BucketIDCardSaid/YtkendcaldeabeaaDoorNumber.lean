/- package number: Decimal and Hex; what of strconv and bits they call. -/
import Derived.Test.YtkendcaldeabeaaDoorNewID
import Derived.Test.YtkendcaldeabeaaDoorShelf
import Derived.Test.YtkendcaldeabeaaDoorBelowQ
import Derived.Laws.BitsAllLaws
import Derived.Lib.AppendIntMem
namespace Go.Proofs.YtkendcaldeabeaaDoor
open Go.RowKit Go.Own
set_option linter.unusedVariables false
set_option maxHeartbeats 1000000

theorem format10_calls (n : Nat) (w : World) (hE : Env w) (hn : n ≤ 9223372036854775807) :
    Calls Tryd.prog 29 #[.int .i64 (n : Int), .int .i64 10] w fun e w' => e = .returned (.string (bs (digs 10 n))) ∧ Below w.heap.size w w' := by
  have h0 : ¬ ((n : Int) < 0) := by omega
  have HT := Lib.hid (show (⟨(Lib.itoa (n : Int)).toArray⟩ : ByteArray) = bs (digs 10 n) by unfold Lib.itoa; rw [if_neg h0, Int.toNat_natCast, digs_ten]; rfl)
  go_enter Tryd.func29, Tryd.ntmps29
  go_wp2_with fail
  refine (Tryd.strconv_FormatInt_10 (n : Int) (by omega) (by omega) _ hE.pow).mono ?_
  rintro e w1 ⟨rfl, k, os, rfl⟩
  rw [HT.out]
  have hb := Lib.below_grow w.heap.size w (Nat.le_refl _) k os
  generalize Go.Sort.grow (w.drewN k) os = w1 at hb ⊢
  go_wp2
  go_ret
  exact ⟨rfl, hb⟩

theorem decimal_calls (n : Nat) (m : Int) (w : World) (hE : Env w) (hm : m = n) (hn : n ≤ 9223372036854775807) :
    Calls Tryd.prog 19 #[.int .i64 m] w fun e w' => e = .returned (.string (bs (digs 10 n))) ∧ Below w.heap.size w w' := by
  subst hm
  go_enter Tryd.func19, Tryd.ntmps19
  go_wp2_with fail
  refine (format10_calls n _ hE hn).mono ?_
  rintro e w1 ⟨rfl, hb⟩
  go_wp2
  go_ret
  exact ⟨rfl, hb⟩

theorem isPow16_calls (w : World) : Calls Tryd.prog 55 #[.int .i64 16] w fun e w' => e = .returned (.bool true) ∧ w = w' := by
  go_enter Tryd.func55, Tryd.ntmps55
  go_wp2
  go_ret
  exact ⟨rfl, rfl⟩

theorem deb_cell {w : World} (hE : Env w) : w.cell? ⟨3, 15, none⟩ = some (.int .u8 4) :=
  Lib.TabIs.cell hE.deb (g := 3) (by kernel_rfl) 15 (by decide)
theorem trailing64_calls (w : World) (hE : Env w) : Calls Tryd.prog 58 #[.int .u64 16] w fun e w' => e = .returned (.int .i64 4) ∧ w = w' := by
  have hc := deb_cell hE
  have hi : IntKind.u64.wrap (bits BinOp.and IntKind.u64 16 (IntKind.u64.wrap (-16)) * 285870213051353865) / 288230376151711744 = 15 := by decide +kernel
  go_enter Tryd.func58, Tryd.ntmps58
  go_wp2
  go_ret
  exact ⟨rfl, rfl⟩
theorem trailing_calls (w : World) (hE : Env w) : Calls Tryd.prog 56 #[.int .u64 16] w fun e w' => e = .returned (.int .i64 4) ∧ w = w' := by
  go_enter Tryd.func56, Tryd.ntmps56
  go_wp2_with fail
  refine (trailing64_calls _ hE).mono ?_
  rintro e w1 ⟨rfl, rfl⟩
  go_wp2
  go_ret
  exact ⟨rfl, rfl⟩
theorem zero65 : Tryd.zeroCells76 = (bytesV (List.replicate 65 0)).toArray := by kernel_rfl
theorem mut65 (w : World) : MutC (w.alloc (.cells Tryd.zeroCells76 76)) w.heap.size (bytesV (List.replicate 65 0)) := by
  intro k hk
  obtain ⟨h1, h2⟩ := keptN (Below.refl (w.alloc (.cells Tryd.zeroCells76 76)).heap.size (w.alloc (.cells Tryd.zeroCells76 76))) k
  refine ⟨h1.trans ?_, h2⟩
  rw [zero65]
  simp [hk]
/-- one digit more, from the right -/
theorem put_digit (i : Nat) (t : List UInt8) (d : UInt8) : (bytesV (List.replicate (i + 1) 0 ++ t)).set i (.int .u8 (d.toNat : Int)) = bytesV (List.replicate i 0 ++ (d :: t)) := by
  have e : (List.replicate (i + 1) (0 : UInt8) ++ t).set i d = List.replicate i 0 ++ (d :: t) := by
    rw [List.replicate_succ', List.append_assoc, List.set_append_right _ _ (by simp)]
    simp
  rw [← e, bytesV, bytesV, List.map_set]; rfl
theorem and15 (m : Nat) (h : m < 18446744073709551616) : bits BinOp.and IntKind.u64 (m : Int) 15 = ((m % 16 : Nat) : Int) := by
  have e2 := bits_and_u64_nat m 15 h (by omega)
  rw [show m &&& 15 = m % 16 from Nat.and_two_pow_sub_one_eq_mod _ 4] at e2
  exact e2

theorem hex_get : ∀ d : Nat, d < 16 → ∀ h : d < (⟨#[48, 49, 50, 51, 52, 53, 54, 55, 56, 57, 97, 98, 99, 100, 101, 102, 103, 104, 105, 106, 107, 108, 109, 110, 111, 112, 113, 114, 115, 116, 117, 118, 119, 120, 121, 122]⟩ : ByteArray).size, (⟨#[48, 49, 50, 51, 52, 53, 54, 55, 56, 57, 97, 98, 99, 100, 101, 102, 103, 104, 105, 106, 107, 108, 109, 110, 111, 112, 113, 114, 115, 116, 117, 118, 119, 120, 121, 122]⟩ : ByteArray)[d]'h = hexD d := by decide +kernel
theorem arr65 : Tryd.prog.arrayLen 76 = 65 := by kernel_rfl
theorem slice65 (g j : Nat) (hj : j < 65) (W : World) : (Instr.sliceAt 76 (.pointer (some ⟨g, 0, none⟩)) (some (.int .i64 (j : Int))) none none).run Tryd.prog W = .ok (.slice (some ⟨g, j, none⟩) (65 - j) (65 - j)) W := by
  rw [run_sliceAt_array_l W 76 ⟨g, 0, none⟩ Tryd.underlying76 .i64 (j : Int) (by omega) (by rw [arr65]; omega)]
  rw [arr65]
  go_simp
  omega
theorem mut_drop {w : World} {g j : Nat} {xs : List Value} (h : MutC w g xs) : RdC w (some ⟨g, j, none⟩) (xs.drop j) := by
  intro k hk
  rw [List.length_drop] at hk
  exact ⟨g, j, rfl, by rw [(h (j + k) (by omega)).1, List.getElem_drop]⟩

theorem formatBits_calls (n : Nat) (w : World) (hE : Env w) (hn : n ≤ 9223372036854775807) :
    Calls Tryd.prog 49 #[.slice none 0 0, .int .u64 (n : Int), .int .i64 16, .bool false, .bool false] w fun e w' => e = .returned (.tuple #[.slice none 0 0, .string (bs (digs 16 n))]) ∧ Below w.heap.size w w' := by
  have HL := Lib.hid (digs_length_le 16 n 15 (by omega) (by omega))
  have HM := mut65 w
  have hE1 := hE.below ((Below.refl _ _).alloc (Nat.le_refl _) (.cells Tryd.zeroCells76 76))
  have HB := (Below.refl w.heap.size w).alloc (Nat.le_refl _) (.cells Tryd.zeroCells76 76)
  go_enter Tryd.func49, Tryd.ntmps49
  go_wp2_with fail
  generalize (w.alloc (.cells Tryd.zeroCells76 76)) = w0 at *
  refine (isPow16_calls _).mono ?_
  rintro e w1 ⟨rfl, rfl⟩
  go_wp2_with fail
  refine (trailing_calls _ hE1).mono ?_
  rintro e w1 ⟨rfl, rfl⟩
  go_wp2
  go_loopw [1, 13] (fun u i wr => ∃ (m j : Nat) (t : List UInt8), m ≤ n ∧ u = .int .u64 m ∧ i = .int .i64 j ∧ j + t.length = 65 ∧ MutC wr w.heap.size (bytesV (List.replicate j 0 ++ t)) ∧ Below w.heap.size w wr ∧ Hid (digs 16 n = digs 16 m ++ t)) (fun u _ _ => (intOf u).toNat)
  case atStart => exact ⟨n, 65, [], Nat.le_refl _, rfl, rfl, rfl, by simpa using HM, HB, Lib.hid (by simp)⟩
  case round =>
    clear HM HB hE1
    obtain ⟨m, j, t, hm, rfl, rfl, hjt, hmut, hb, HD⟩ := hrel
    have htl : t.length ≤ 15 := by have := HL.out; rw [HD.out, List.length_append] at this; have := digs_pos 16 m; omega
    obtain ⟨j, rfl⟩ : ∃ i, j = i + 1 := ⟨j - 1, by omega⟩
    have hj1 : j < (bytesV (List.replicate (j + 1) 0 ++ t)).length := by rw [bytesV_length]; simp; omega
    obtain ⟨m0, m1⟩ := hmut j hj1
    have hset := fun d : UInt8 => hmut.set j hj1 (.int .u8 (d.toNat : Int))
    generalize (bytesV (List.replicate (j + 1) 0 ++ t))[j] = u0 at m0
    by_cases h16 : 16 ≤ m
    · have h1 : (16 : Int) ≤ (m : Int) := by omega
      have ha := and15 m (by omega)
      have hd0 : m % 16 < 16 := by omega
      have HX := Lib.hid (hex_get (m % 16) hd0)
      have HS := Lib.hid (show digs 16 m ++ t = digs 16 (m / 16) ++ (hexD (m % 16) :: t) by rw [digs_step (by omega) h16, List.append_assoc]; rfl)
      have hset2 := hset (hexD (m % 16))
      rw [put_digit] at hset2
      have HQ := Lib.hid (show ((m : Int) / 16) = ((m / 16 : Nat) : Int) by omega)
      clear hset hmut
      go_wp2
      rw [HX.out]
      go_roundw
      case rel => exact ⟨m / 16, j, _, by omega, by rw [HQ.out], rfl, by simp; omega, hset2, hb.setCell (Nat.le_refl _) _, Lib.hid (by rw [HD.out]; exact HS.out)⟩
      case measure => simp [intOf]; omega
    · have h1 : ¬ (16 : Int) ≤ (m : Int) := by omega
      have hd0 : m < 16 := by omega
      have HX := Lib.hid (hex_get m hd0)
      have HS := Lib.hid (show digs 16 n = hexD m :: t by rw [HD.out, digs_small hd0]; rfl)
      have hset2 := hset (hexD m)
      rw [put_digit] at hset2
      have hrd := mut_drop (j := j) hset2
      have hdr : (bytesV (List.replicate j 0 ++ (hexD m :: t))).drop j = bytesV (hexD m :: t) := by
        rw [bytesV, bytesV, ← List.map_drop, List.drop_left' (by simp)]
      rw [hdr] at hrd
      have hsl := slice65 w.heap.size j (by omega)
      have hb2 := hb.setCell (p := ⟨w.heap.size, j, none⟩) (Nat.le_refl _) (.int .u8 ((hexD m).toNat : Int))
      have hjl : 65 - j = (hexD m :: t).length := by simp; omega
      have HJ := Lib.hid hjl
      have HR := Lib.hid hrd
      clear hset hmut hdr hjl hrd hset2
      go_wp2_with fail
      rw [HX.out]
      rw [conv_bytes (P := Tryd.prog) (l := hexD m :: t) Tryd.underlying40 Tryd.underlying5 Tryd.underlying9 HJ.out HR.out]
      simp only [Result.andThen]
      rw [Oper.upon_value]
      go_wp2
      go_ret2
      exact ⟨by rw [HS.out]; rfl, hb2⟩

theorem formatIntI16_calls (n : Nat) (w : World) (hE : Env w) (hn : n ≤ 9223372036854775807) :
    Calls Tryd.prog 40 #[.int .i64 (n : Int), .int .i64 16] w fun e w' => e = .returned (.string (bs (digs 16 n))) ∧ Below w.heap.size w w' := by
  have h0 : ¬ ((n : Int) < 0) := by omega
  have h1 : IntKind.u64.wrap (n : Int) = (n : Int) := IntWalk.u64_in _ (by omega)
  go_enter Tryd.func40, Tryd.ntmps40
  go_wp2_with fail
  refine (formatBits_calls n _ hE hn).mono ?_
  rintro e w1 ⟨rfl, hb⟩
  go_wp2
  go_ret
  exact ⟨rfl, hb⟩

theorem formatInt16_calls (n : Nat) (w : World) (hE : Env w) (hn : n ≤ 9223372036854775807) :
    Calls Tryd.prog 33 #[.int .i64 (n : Int), .int .i64 16] w fun e w' => e = .returned (.string (bs (digs 16 n))) ∧ Below w.heap.size w w' := by
  have h0 : ¬ ((n : Int) < 0) := by omega
  have h1 : IntKind.u64.wrap (n : Int) = (n : Int) := IntWalk.u64_in _ (by omega)
  go_enter Tryd.func33, Tryd.ntmps33
  go_wp2_with fail
  refine (formatIntI16_calls n _ hE hn).mono ?_
  rintro e w1 ⟨rfl, hb⟩
  go_wp2
  go_ret
  exact ⟨rfl, hb⟩

theorem format16_calls (n : Nat) (w : World) (hE : Env w) (hn : n ≤ 9223372036854775807) :
    Calls Tryd.prog 29 #[.int .i64 (n : Int), .int .i64 16] w fun e w' => e = .returned (.string (bs (digs 16 n))) ∧ Below w.heap.size w w' := by
  have h0 : ¬ ((n : Int) < 0) := by omega
  go_enter Tryd.func29, Tryd.ntmps29
  go_wp2_with fail
  refine (formatInt16_calls n _ hE hn).mono ?_
  rintro e w1 ⟨rfl, hb⟩
  go_wp2
  go_ret
  exact ⟨rfl, hb⟩

theorem hex_calls (n : Nat) (m : Int) (w : World) (hE : Env w) (hm : m = n) (hn : n ≤ 9223372036854775807) :
    Calls Tryd.prog 30 #[.int .i64 m] w fun e w' => e = .returned (.string (bs (digs 16 n))) ∧ Below w.heap.size w w' := by
  subst hm
  go_enter Tryd.func30, Tryd.ntmps30
  go_wp2_with fail
  refine (format16_calls n _ hE hn).mono ?_
  rintro e w1 ⟨rfl, hb⟩
  go_wp2
  go_ret
  exact ⟨rfl, hb⟩
end Go.Proofs.YtkendcaldeabeaaDoor
