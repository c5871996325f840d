/- package number: Decimal and Hex; what of strconv and bits they call. package bucket and the layer-15 laws. -/
import Derived.Test.YtfmokccoilgpmaaGreatDoorDec
import Derived.Test.YtfmokccoilgpmaaGreatDoorShelf
import Derived.Test.YtfmokccoilgpmaaGreatDoorPB
import Derived.Laws.BitsAllLaws
import Derived.Lib.AppendIntMem
import Derived.Test.YtfmokccoilgpmaaGreatDoorCookie
/-! package number: Decimal and Hex; what of strconv and bits they call. -/
namespace Go.Proofs.YtfmokccoilgpmaaGreatDoor
open Go.RowKit Go.Own
set_option linter.unusedVariables false
set_option linter.unusedSimpArgs false
set_option maxHeartbeats 1000000
set_option maxRecDepth 20000

theorem isPow16_calls (w : World) : Calls Tryz.prog 148 #[.int .i64 16] w fun e w' => e = .returned (.bool true) ∧ w = w' := by
  go_enter Tryz.func148, Tryz.ntmps148
  go_wp2
  go_ret
  exact ⟨rfl, rfl⟩

theorem deb_cell {w : World} (hE : EnvP w) : w.cell? ⟨6, 15, none⟩ = some (.int .u8 4) :=
  Lib.TabIs.cell hE.deb (g := 6) (by kernel_rfl) 15 (by decide)
theorem trailing64_calls (w : World) (hE : EnvP w) : Calls Tryz.prog 151 #[.int .u64 16] w fun e w' => e = .returned (.int .i64 4) ∧ w = w' := by
  have hc := deb_cell hE
  have hi : IntKind.u64.wrap (bits BinOp.and IntKind.u64 16 (IntKind.u64.wrap (-16)) * 285870213051353865) / 288230376151711744 = 15 := by decide +kernel
  go_enter Tryz.func151, Tryz.ntmps151
  go_wp2
  go_ret
  exact ⟨rfl, rfl⟩
theorem trailing_calls (w : World) (hE : EnvP w) : Calls Tryz.prog 149 #[.int .u64 16] w fun e w' => e = .returned (.int .i64 4) ∧ w = w' := by
  go_enter Tryz.func149, Tryz.ntmps149
  go_wp2_with fail
  refine (trailing64_calls _ hE).mono ?_
  rintro e w1 ⟨rfl, rfl⟩
  go_wp2
  go_ret
  exact ⟨rfl, rfl⟩
theorem zero65 : Tryz.zeroCells171 = (bytesV (List.replicate 65 0)).toArray := by kernel_rfl
theorem mut65 (w : World) : MutC (w.alloc (.cells Tryz.zeroCells171 171)) w.heap.size (bytesV (List.replicate 65 0)) := by
  intro k hk
  obtain ⟨h1, h2⟩ := keptN (Below.refl (w.alloc (.cells Tryz.zeroCells171 171)).heap.size (w.alloc (.cells Tryz.zeroCells171 171))) k
  refine ⟨h1.trans ?_, h2⟩
  rw [zero65]
  simp [hk]
/-- one digit more, from the right -/
theorem put_digit (i : Nat) (t : List UInt8) (d : UInt8) : (bytesV (List.replicate (i + 1) 0 ++ t)).set i (.int .u8 (d.toNat : Int)) = bytesV (List.replicate i 0 ++ (d :: t)) := by
  have e : (List.replicate (i + 1) (0 : UInt8) ++ t).set i d = List.replicate i 0 ++ (d :: t) := by
    rw [List.replicate_succ', List.append_assoc, List.set_append_right _ _ (by simp)]
    simp
  rw [← e, bytesV, bytesV, List.map_set]; rfl
theorem and15 (m : Nat) (h : m < 18446744073709551616) : bits BinOp.and IntKind.u64 (m : Int) 15 = ((m % 16 : Nat) : Int) := by
  have e2 := bits_and_u64_nat m 15 h (by omega)
  rw [show m &&& 15 = m % 16 from Nat.and_two_pow_sub_one_eq_mod _ 4] at e2
  exact e2

theorem hex_get : ∀ d : Nat, d < 16 → ∀ h : d < (⟨#[48, 49, 50, 51, 52, 53, 54, 55, 56, 57, 97, 98, 99, 100, 101, 102, 103, 104, 105, 106, 107, 108, 109, 110, 111, 112, 113, 114, 115, 116, 117, 118, 119, 120, 121, 122]⟩ : ByteArray).size, (⟨#[48, 49, 50, 51, 52, 53, 54, 55, 56, 57, 97, 98, 99, 100, 101, 102, 103, 104, 105, 106, 107, 108, 109, 110, 111, 112, 113, 114, 115, 116, 117, 118, 119, 120, 121, 122]⟩ : ByteArray)[d]'h = hexD d := by decide +kernel
theorem arr65 : Tryz.prog.arrayLen 171 = 65 := by kernel_rfl
theorem slice65 (g j : Nat) (hj : j < 65) (W : World) : (Instr.sliceAt 171 (.pointer (some ⟨g, 0, none⟩)) (some (.int .i64 (j : Int))) none none).run Tryz.prog W = .ok (.slice (some ⟨g, j, none⟩) (65 - j) (65 - j)) W := by
  rw [run_sliceAt_array_l (P := Tryz.prog) W 171 ⟨g, 0, none⟩ Tryz.underlying171 .i64 (j : Int) (by omega) (by rw [arr65]; omega)]
  rw [arr65]
  go_simp
  omega
theorem mut_drop {w : World} {g j : Nat} {xs : List Value} (h : MutC w g xs) : RdC w (some ⟨g, j, none⟩) (xs.drop j) := by
  intro k hk
  rw [List.length_drop] at hk
  exact ⟨g, j, rfl, by rw [(h (j + k) (by omega)).1, List.getElem_drop]⟩

theorem formatBits_calls (n : Nat) (w : World) (hE : EnvP w) (hn : n ≤ 9223372036854775807) :
    Calls Tryz.prog 140 #[.slice none 0 0, .int .u64 (n : Int), .int .i64 16, .bool false, .bool false] w fun e w' => e = .returned (.tuple #[.slice none 0 0, .string (bs (digs 16 n))]) ∧ Below w.heap.size w w' := by
  have HL := Lib.hid (digs_length_le 16 n 15 (by omega) (by omega))
  have HM := mut65 w
  have hE1 := hE.below ((Below.refl _ _).alloc (Nat.le_refl _) (.cells Tryz.zeroCells171 171))
  have HB := (Below.refl w.heap.size w).alloc (Nat.le_refl _) (.cells Tryz.zeroCells171 171)
  go_enter Tryz.func140, Tryz.ntmps140
  go_wp2_with fail
  generalize (w.alloc (.cells Tryz.zeroCells171 171)) = w0 at *
  refine (isPow16_calls _).mono ?_
  rintro e w1 ⟨rfl, rfl⟩
  go_wp2_with fail
  refine (trailing_calls _ hE1).mono ?_
  rintro e w1 ⟨rfl, rfl⟩
  go_wp2
  go_loopw [1, 13] (fun u i wr => ∃ (m j : Nat) (t : List UInt8), m ≤ n ∧ u = .int .u64 m ∧ i = .int .i64 j ∧ j + t.length = 65 ∧ MutC wr w.heap.size (bytesV (List.replicate j 0 ++ t)) ∧ Below w.heap.size w wr ∧ Hid (digs 16 n = digs 16 m ++ t)) (fun u _ _ => (intOf u).toNat)
  case atStart => exact ⟨n, 65, [], Nat.le_refl _, rfl, rfl, rfl, by simpa using HM, HB, Lib.hid (by simp)⟩
  case round =>
    clear HM HB hE1
    obtain ⟨m, j, t, hm, rfl, rfl, hjt, hmut, hb, HD⟩ := hrel
    have htl : t.length ≤ 15 := by have := HL.out; rw [HD.out, List.length_append] at this; have := digs_pos 16 m; omega
    obtain ⟨j, rfl⟩ : ∃ i, j = i + 1 := ⟨j - 1, by omega⟩
    have hj1 : j < (bytesV (List.replicate (j + 1) 0 ++ t)).length := by rw [bytesV_length]; simp; omega
    obtain ⟨m0, m1⟩ := hmut j hj1
    have hset := fun d : UInt8 => hmut.set j hj1 (.int .u8 (d.toNat : Int))
    generalize (bytesV (List.replicate (j + 1) 0 ++ t))[j] = u0 at m0
    by_cases h16 : 16 ≤ m
    · have h1 : (16 : Int) ≤ (m : Int) := by omega
      have ha := and15 m (by omega)
      have hd0 : m % 16 < 16 := by omega
      have HX := Lib.hid (hex_get (m % 16) hd0)
      have HS := Lib.hid (show digs 16 m ++ t = digs 16 (m / 16) ++ (hexD (m % 16) :: t) by rw [digs_step (by omega) h16, List.append_assoc]; rfl)
      have hset2 := hset (hexD (m % 16))
      rw [put_digit] at hset2
      have HQ := Lib.hid (show ((m : Int) / 16) = ((m / 16 : Nat) : Int) by omega)
      clear hset hmut
      go_wp2
      rw [HX.out]
      go_roundw
      case rel => exact ⟨m / 16, j, _, by omega, by rw [HQ.out], rfl, by simp; omega, hset2, hb.setCell (Nat.le_refl _) _, Lib.hid (by rw [HD.out]; exact HS.out)⟩
      case measure => simp [intOf]; omega
    · have h1 : ¬ (16 : Int) ≤ (m : Int) := by omega
      have hd0 : m < 16 := by omega
      have HX := Lib.hid (hex_get m hd0)
      have HS := Lib.hid (show digs 16 n = hexD m :: t by rw [HD.out, digs_small hd0]; rfl)
      have hset2 := hset (hexD m)
      rw [put_digit] at hset2
      have hrd := mut_drop (j := j) hset2
      have hdr : (bytesV (List.replicate j 0 ++ (hexD m :: t))).drop j = bytesV (hexD m :: t) := by
        rw [bytesV, bytesV, ← List.map_drop, List.drop_left' (by simp)]
      rw [hdr] at hrd
      have hsl := slice65 w.heap.size j (by omega)
      have hb2 := hb.setCell (p := ⟨w.heap.size, j, none⟩) (Nat.le_refl _) (.int .u8 ((hexD m).toNat : Int))
      have hjl : 65 - j = (hexD m :: t).length := by simp; omega
      have HJ := Lib.hid hjl
      have HR := Lib.hid hrd
      clear hset hmut hdr hjl hrd hset2
      go_wp2_with fail
      rw [HX.out]
      rw [conv_bytes (P := Tryz.prog) (l := hexD m :: t) Tryz.underlying33 Tryz.underlying5 Tryz.underlying9 HJ.out HR.out]
      simp only [Result.andThen]
      rw [Oper.upon_value]
      go_wp2
      go_ret2
      exact ⟨by rw [HS.out]; rfl, hb2⟩

theorem formatIntI16_calls (n : Nat) (w : World) (hE : EnvP w) (hn : n ≤ 9223372036854775807) :
    Calls Tryz.prog 122 #[.int .i64 (n : Int), .int .i64 16] w fun e w' => e = .returned (.string (bs (digs 16 n))) ∧ Below w.heap.size w w' := by
  have h0 : ¬ ((n : Int) < 0) := by omega
  have h1 : IntKind.u64.wrap (n : Int) = (n : Int) := IntWalk.u64_in _ (by omega)
  go_enter Tryz.func122, Tryz.ntmps122
  go_wp2_with fail
  refine (formatBits_calls n _ hE hn).mono ?_
  rintro e w1 ⟨rfl, hb⟩
  go_wp2
  go_ret
  exact ⟨rfl, hb⟩

theorem formatInt16_calls (n : Nat) (w : World) (hE : EnvP w) (hn : n ≤ 9223372036854775807) :
    Calls Tryz.prog 103 #[.int .i64 (n : Int), .int .i64 16] w fun e w' => e = .returned (.string (bs (digs 16 n))) ∧ Below w.heap.size w w' := by
  have h0 : ¬ ((n : Int) < 0) := by omega
  have h1 : IntKind.u64.wrap (n : Int) = (n : Int) := IntWalk.u64_in _ (by omega)
  go_enter Tryz.func103, Tryz.ntmps103
  go_wp2_with fail
  refine (formatIntI16_calls n _ hE hn).mono ?_
  rintro e w1 ⟨rfl, hb⟩
  go_wp2
  go_ret
  exact ⟨rfl, hb⟩

theorem format16_calls (n : Nat) (w : World) (hE : EnvP w) (hn : n ≤ 9223372036854775807) :
    Calls Tryz.prog 82 #[.int .i64 (n : Int), .int .i64 16] w fun e w' => e = .returned (.string (bs (digs 16 n))) ∧ Below w.heap.size w w' := by
  have h0 : ¬ ((n : Int) < 0) := by omega
  go_enter Tryz.func82, Tryz.ntmps82
  go_wp2_with fail
  refine (formatInt16_calls n _ hE hn).mono ?_
  rintro e w1 ⟨rfl, hb⟩
  go_wp2
  go_ret
  exact ⟨rfl, hb⟩

theorem hex_calls (n : Nat) (m : Int) (w : World) (hE : EnvP w) (hm : m = n) (hn : n ≤ 9223372036854775807) :
    Calls Tryz.prog 83 #[.int .i64 m] w fun e w' => e = .returned (.string (bs (digs 16 n))) ∧ Below w.heap.size w w' := by
  subst hm
  go_enter Tryz.func83, Tryz.ntmps83
  go_wp2_with fail
  refine (format16_calls n _ hE hn).mono ?_
  rintro e w1 ⟨rfl, hb⟩
  go_wp2
  go_ret
  exact ⟨rfl, hb⟩
end Go.Proofs.YtfmokccoilgpmaaGreatDoor

/-! package bucket and the layer-15 laws. -/
namespace Go.Proofs.YtfmokccoilgpmaaGreatDoor
open Go.RowKit Go.Own
set_option linter.unusedVariables false
set_option maxHeartbeats 1000000

theorem and32 (m : Nat) (h : m < 18446744073709551616) : bits BinOp.and IntKind.u64 (m : Int) 4294967295 = ((m % 4294967296 : Nat) : Int) := by
  have e2 := bits_and_u64_nat m 4294967295 h (by omega)
  rw [show m &&& 4294967295 = m % 4294967296 from Nat.and_two_pow_sub_one_eq_mod _ 32] at e2
  exact e2
theorem rep_zero (c : Nat) : Lib.repeatL [48] c = List.replicate c 48 := by
  induction c with
  | zero => rfl
  | succ c ih => rw [Lib.repeatL, ih, List.replicate_succ]; rfl

theorem halfHi (n : Nat) (hn : n < 18446744073709551616) : wrap64 (bits BinOp.and IntKind.u64 ((n : Int) / 4294967296) 4294967295) = ((n / 4294967296 : Nat) : Int) := by
  have e1 : (n : Int) / 4294967296 = ((n / 4294967296 : Nat) : Int) := by omega
  rw [e1, and32 _ (by omega), Nat.mod_eq_of_lt (by omega)]
  exact IntWalk.wrap64_in _ ⟨by omega, by omega⟩
theorem halfLo (n : Nat) (hn : n < 18446744073709551616) : wrap64 (bits BinOp.and IntKind.u64 (n : Int) 4294967295) = ((n % 4294967296 : Nat) : Int) := by
  rw [and32 _ hn]
  exact IntWalk.wrap64_in _ ⟨by omega, by omega⟩
theorem partHi_calls (n : Nat) (w : World) (hE : EnvP w) (hn : n < 18446744073709551616) :
    Calls Tryz.prog 61 #[.int .u64 (n : Int), .int .i64 32] w fun e w' => e = .returned (.string (bs (hexN 8 (n / 4294967296)))) ∧ Below w.heap.size w w' := by
  have HH := Lib.hid (halfHi n hn)
  have hx : n / 4294967296 < 16 ^ (7 + 1) := by omega
  clear hn
  go_enter Tryz.func61, Tryz.ntmps61
  go_wp2_with fail
  refine (hex_calls (n / 4294967296) _ _ hE HH.out (by omega)).mono ?_
  rintro e w1 ⟨rfl, hb1⟩
  have HP := Lib.hid (hexN_pad 7 (n / 4294967296) hx)
  have hk := digs_length_le 16 (n / 4294967296) 7 (by omega) hx
  clear hx HH
  generalize hxv : n / 4294967296 = x at *
  have HXV := Lib.hid hxv
  clear hxv
  have hts : (bs (digs 16 x)).size = (digs 16 x).length := bs_size _
  have hq : (8 : Int) - ((bs (digs 16 x)).size : Int) = ((8 - (digs 16 x).length : Nat) : Int) := by rw [hts]; omega
  have hz : (bs (digs 16 x)).size ≤ 8 := by omega
  have hr1 : (⟨(Lib.repeatL (⟨#[48]⟩ : ByteArray).data.toList (8 - (digs 16 x).length)).toArray⟩ : ByteArray) = bs (List.replicate (8 - (digs 16 x).length) 48) := by rw [← rep_zero]; rfl
  have hr2 : (bs (List.replicate (8 - (digs 16 x).length) 48)).size ≤ 8 := by rw [bs_size, List.length_replicate]; omega
  have HR := Lib.hid hr1
  clear hr1 hts
  generalize 8 - (digs 16 x).length = c at *
  have hc : c ≤ 8 := by have := hr2; rw [bs_size, List.length_replicate] at this; exact this
  generalize hd : bs (digs 16 x) = t at *
  have HD := Lib.hid hd
  clear hd
  go_wp2_with fail
  refine (Tryz.strings_Repeat ⟨#[48]⟩ c _ (by omega) (by show 1 * c ≤ _; omega)).mono ?_
  rintro e w2 ⟨rfl, hb2⟩
  rw [HR.out]
  have HB := Below.self_trans hb1 hb2
  clear hb1 hb2 hq
  go_wp2
  go_ret
  exact ⟨ret_str (by rw [← HD.out]; apply bl_inj; rw [bl_append, bl_bs, bl_bs, bl_bs, HXV.out]; exact HP.out), HB⟩
theorem partLo_calls (n : Nat) (w : World) (hE : EnvP w) (hn : n < 18446744073709551616) :
    Calls Tryz.prog 61 #[.int .u64 (n : Int), .int .i64 0] w fun e w' => e = .returned (.string (bs (hexN 8 (n % 4294967296)))) ∧ Below w.heap.size w w' := by
  have HH := Lib.hid (halfLo n hn)
  have hx : n % 4294967296 < 16 ^ (7 + 1) := by omega
  clear hn
  go_enter Tryz.func61, Tryz.ntmps61
  go_wp2_with fail
  refine (hex_calls (n % 4294967296) _ _ hE HH.out (by omega)).mono ?_
  rintro e w1 ⟨rfl, hb1⟩
  have HP := Lib.hid (hexN_pad 7 (n % 4294967296) hx)
  have hk := digs_length_le 16 (n % 4294967296) 7 (by omega) hx
  clear hx HH
  generalize hxv : n % 4294967296 = x at *
  have HXV := Lib.hid hxv
  clear hxv
  have hts : (bs (digs 16 x)).size = (digs 16 x).length := bs_size _
  have hq : (8 : Int) - ((bs (digs 16 x)).size : Int) = ((8 - (digs 16 x).length : Nat) : Int) := by rw [hts]; omega
  have hz : (bs (digs 16 x)).size ≤ 8 := by omega
  have hr1 : (⟨(Lib.repeatL (⟨#[48]⟩ : ByteArray).data.toList (8 - (digs 16 x).length)).toArray⟩ : ByteArray) = bs (List.replicate (8 - (digs 16 x).length) 48) := by rw [← rep_zero]; rfl
  have hr2 : (bs (List.replicate (8 - (digs 16 x).length) 48)).size ≤ 8 := by rw [bs_size, List.length_replicate]; omega
  have HR := Lib.hid hr1
  clear hr1 hts
  generalize 8 - (digs 16 x).length = c at *
  have hc : c ≤ 8 := by have := hr2; rw [bs_size, List.length_replicate] at this; exact this
  generalize hd : bs (digs 16 x) = t at *
  have HD := Lib.hid hd
  clear hd
  go_wp2_with fail
  refine (Tryz.strings_Repeat ⟨#[48]⟩ c _ (by omega) (by show 1 * c ≤ _; omega)).mono ?_
  rintro e w2 ⟨rfl, hb2⟩
  rw [HR.out]
  have HB := Below.self_trans hb1 hb2
  clear hb1 hb2 hq
  go_wp2
  go_ret
  exact ⟨ret_str (by rw [← HD.out]; apply bl_inj; rw [bl_append, bl_bs, bl_bs, bl_bs, HXV.out]; exact HP.out), HB⟩

theorem newID_calls (draw serial : Int) (w : World) (hE : EnvP w) (h1 : In64 draw) (h2 : In64 serial) :
    Calls Tryz.prog 26 #[.int .i64 draw, .int .i64 serial] w fun e w' => e = .returned (.string (idOf (hsum [bs (digs 10 draw.toNat), bs (digs 10 serial.toNat)]).toNat)) ∧ Below w.heap.size w w' := by
  obtain ⟨d1, d2⟩ := h1
  obtain ⟨s1, s2⟩ := h2
  have hz1 : (bs (digs 10 draw.toNat)).size ≤ 64 := by rw [bs_size]; exact digs_len64 10 _ (by omega) (by omega)
  have hz2 : (bs (digs 10 serial.toNat)).size ≤ 64 := by rw [bs_size]; exact digs_len64 10 _ (by omega) (by omega)
  have hn1 := Lib.hid (show draw.toNat ≤ 9223372036854775807 by omega)
  have hn2 := Lib.hid (show serial.toNat ≤ 9223372036854775807 by omega)
  have hmx1 := Lib.hid (show max draw 0 = (draw.toNat : Int) by omega)
  have hmx2 := Lib.hid (show max serial 0 = (serial.toNat : Int) by omega)
  clear d1 d2 s1 s2
  go_enter Tryz.func26, Tryz.ntmps26
  go_wp2_with fail
  refine (decimal_calls draw.toNat _ _ hE hmx1.out hn1.out).mono ?_
  rintro e w1 ⟨rfl, hb1⟩
  go_wp2_with fail
  refine (decimal_calls serial.toNat _ _ (hE.below hb1) hmx2.out hn2.out).mono ?_
  rintro e w2 ⟨rfl, hb2⟩
  have HB2 := Below.self_trans hb1 hb2
  clear hb1 hb2 hmx1 hmx2 hn1 hn2
  generalize hx1 : bs (digs 10 draw.toNat) = x1 at *
  generalize hx2 : bs (digs 10 serial.toNat) = x2 at *
  have HX1 := Lib.hid hx1
  have HX2 := Lib.hid hx2
  clear hx1 hx2
  have hz3 : ∀ s ∈ [x1, x2], s.size ≤ maxLen := by
    intro s hs
    simp only [List.mem_cons, List.not_mem_nil, or_false] at hs
    rcases hs with rfl | rfl <;> (simp [maxLen]; omega)
  go_wp2_with fail
  refine (hashSum_calls _ [x1, x2] _ (rds_lit w2 [x1, x2] _ _ _ rfl rfl rfl (by simp)) hz3).mono ?_
  rintro e w3 ⟨rfl, hb3⟩
  have HB3 := Below.self_trans HB2 (kept_below hb3)
  obtain ⟨g1, g2⟩ := hsum_bd [x1, x2]
  clear hb3 HB2 hz3 hz1 hz2
  generalize hh : hsum [x1, x2] = h at *
  have HH := Lib.hid hh
  clear hh
  obtain ⟨n, rfl⟩ := Int.eq_ofNat_of_zero_le g1
  have HN := Lib.hid (show n < 18446744073709551616 by omega)
  clear g1 g2
  go_wp2_with fail
  refine (partHi_calls n _ (hE.below HB3) HN.out).mono ?_
  rintro e w4 ⟨rfl, hb4⟩
  have HB4 := Below.self_trans HB3 hb4
  go_wp2_with fail
  refine (partLo_calls n _ (hE.below HB4) HN.out).mono ?_
  rintro e w5 ⟨rfl, hb5⟩
  have HB5 := Below.self_trans HB4 hb5
  clear hb4 hb5 HB3 HB4
  have hl1 : (bs (hexN 8 (n / 4294967296))).size ≤ 8 := by rw [bs_size, hexN_length]; omega
  have hl2 : (bs (hexN 8 (n % 4294967296))).size ≤ 8 := by rw [bs_size, hexN_length]; omega
  go_wp2
  go_ret
  exact ⟨ret_str (by rw [HX1.out, HX2.out, HH.out]; apply bl_inj; rw [bl_append, bl_bs, bl_bs, idOf, bl_bs]; exact (hexN_add 8 8 n).symm), HB5⟩

/-- the bucket of a client -/
def bucketI (salt id : ByteArray) : Int := hsum [salt, id] % 10000
theorem bucketI_bd (salt id : ByteArray) : 0 ≤ bucketI salt id ∧ bucketI salt id < 10000 := by unfold bucketI; omega
theorem bof_calls (salt id : ByteArray) (w : World) (h1 : salt.size ≤ maxLen) (h2 : id.size ≤ maxLen) :
    Calls Tryz.prog 13 #[.string salt, .string id] w fun e w' => e = .returned (.int .i64 (bucketI salt id)) ∧ Below w.heap.size w w' := by
  have hz3 : ∀ s ∈ [salt, id], s.size ≤ maxLen := by
    intro s hs
    simp only [List.mem_cons, List.not_mem_nil, or_false] at hs
    rcases hs with rfl | rfl <;> assumption
  go_enter Tryz.func13, Tryz.ntmps13
  go_wp2_with fail
  refine (hashSum_calls _ [salt, id] _ (rds_lit w [salt, id] _ _ _ rfl rfl rfl (by simp)) hz3).mono ?_
  rintro e w1 ⟨rfl, hb1⟩
  have HB := kept_below hb1
  obtain ⟨g1, -⟩ := hsum_bd [salt, id]
  have HI := Lib.hid (show bucketI salt id = hsum [salt, id] % 10000 from rfl)
  generalize hsum [salt, id] = h at *
  clear hb1 hz3
  go_wp2
  go_ret
  exact ⟨ret_int (by rw [HI.out]), HB⟩
theorem refBucket_calls (salt id : ByteArray) (w : World) (h1 : salt.size ≤ maxLen) (h2 : id.size ≤ maxLen) :
    Calls Tryz.prog 31 #[.string salt, .string id] w fun e w' => e = .returned (.int .i64 (bucketI salt id)) ∧ Below w.heap.size w w' := by
  have hz3 : ∀ s ∈ [salt, id], s.size ≤ maxLen := by
    intro s hs
    simp only [List.mem_cons, List.not_mem_nil, or_false] at hs
    rcases hs with rfl | rfl <;> assumption
  go_enter Tryz.func31, Tryz.ntmps31
  go_wp2_with fail
  refine (refSum_calls _ [salt, id] _ (rds_lit w [salt, id] _ _ _ rfl rfl rfl (by simp)) hz3).mono ?_
  rintro e w1 ⟨rfl, hb1⟩
  have HB := kept_below hb1
  obtain ⟨g1, -⟩ := hsum_bd [salt, id]
  have HI := Lib.hid (show bucketI salt id = hsum [salt, id] % 10000 from rfl)
  generalize hsum [salt, id] = h at *
  clear hb1 hz3
  go_wp2
  go_ret
  exact ⟨ret_int (by rw [HI.out]), HB⟩

def canB (b t : Int) : Bool := decide (0 ≤ b) && decide (b < t)
theorem canary_calls (b t : Int) (w : World) :
    Calls Tryz.prog 27 #[.int .i64 b, .int .i64 t] w fun e w' => e = .returned (.bool (canB b t)) ∧ w = w' := by
  unfold canB
  go_enter Tryz.func27, Tryz.ntmps27
  by_cases h1 : 0 ≤ b
  · by_cases h2 : b < t
    · rw [decide_eq_true h1, decide_eq_true h2]
      go_wp2
      go_ret
      exact ⟨rfl, rfl⟩
    · rw [decide_eq_true h1, decide_eq_false h2]
      go_wp2
      go_ret
      exact ⟨rfl, rfl⟩
  · rw [decide_eq_false h1, Bool.false_and]
    go_wp2
    go_ret
    exact ⟨rfl, rfl⟩


end Go.Proofs.YtfmokccoilgpmaaGreatDoor
