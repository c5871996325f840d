/- package bucket and the layer-15 laws. -/
import Derived.Test.YtkendcaldeabeaaDoorNumber
import Derived.Test.YtkendcaldeabeaaDoorCookie
namespace Go.Proofs.YtkendcaldeabeaaDoor
open Go.RowKit Go.Own
set_option linter.unusedVariables false
set_option maxHeartbeats 1000000

theorem and32 (m : Nat) (h : m < 18446744073709551616) : bits BinOp.and IntKind.u64 (m : Int) 4294967295 = ((m % 4294967296 : Nat) : Int) := by
  have e2 := bits_and_u64_nat m 4294967295 h (by omega)
  rw [show m &&& 4294967295 = m % 4294967296 from Nat.and_two_pow_sub_one_eq_mod _ 32] at e2
  exact e2
theorem rep_zero (c : Nat) : Lib.repeatL [48] c = List.replicate c 48 := by
  induction c with
  | zero => rfl
  | succ c ih => rw [Lib.repeatL, ih, List.replicate_succ]; rfl

theorem halfHi (n : Nat) (hn : n < 18446744073709551616) : wrap64 (bits BinOp.and IntKind.u64 ((n : Int) / 4294967296) 4294967295) = ((n / 4294967296 : Nat) : Int) := by
  have e1 : (n : Int) / 4294967296 = ((n / 4294967296 : Nat) : Int) := by omega
  rw [e1, and32 _ (by omega), Nat.mod_eq_of_lt (by omega)]
  exact IntWalk.wrap64_in _ ⟨by omega, by omega⟩
theorem halfLo (n : Nat) (hn : n < 18446744073709551616) : wrap64 (bits BinOp.and IntKind.u64 (n : Int) 4294967295) = ((n % 4294967296 : Nat) : Int) := by
  rw [and32 _ hn]
  exact IntWalk.wrap64_in _ ⟨by omega, by omega⟩
theorem partHi_calls (n : Nat) (w : World) (hE : Env w) (hn : n < 18446744073709551616) :
    Calls Tryd.prog 20 #[.int .u64 (n : Int), .int .i64 32] w fun e w' => e = .returned (.string (bs (hexN 8 (n / 4294967296)))) ∧ Below w.heap.size w w' := by
  have HH := Lib.hid (halfHi n hn)
  have hx : n / 4294967296 < 16 ^ (7 + 1) := by omega
  clear hn
  go_enter Tryd.func20, Tryd.ntmps20
  go_wp2_with fail
  refine (hex_calls (n / 4294967296) _ _ hE HH.out (by omega)).mono ?_
  rintro e w1 ⟨rfl, hb1⟩
  have HP := Lib.hid (hexN_pad 7 (n / 4294967296) hx)
  have hk := digs_length_le 16 (n / 4294967296) 7 (by omega) hx
  clear hx HH
  generalize hxv : n / 4294967296 = x at *
  have HXV := Lib.hid hxv
  clear hxv
  have hts : (bs (digs 16 x)).size = (digs 16 x).length := bs_size _
  have hq : (8 : Int) - ((bs (digs 16 x)).size : Int) = ((8 - (digs 16 x).length : Nat) : Int) := by rw [hts]; omega
  have hz : (bs (digs 16 x)).size ≤ 8 := by omega
  have hr1 : (⟨(Lib.repeatL (⟨#[48]⟩ : ByteArray).data.toList (8 - (digs 16 x).length)).toArray⟩ : ByteArray) = bs (List.replicate (8 - (digs 16 x).length) 48) := by rw [← rep_zero]; rfl
  have hr2 : (bs (List.replicate (8 - (digs 16 x).length) 48)).size ≤ 8 := by rw [bs_size, List.length_replicate]; omega
  have HR := Lib.hid hr1
  clear hr1 hts
  generalize 8 - (digs 16 x).length = c at *
  have hc : c ≤ 8 := by have := hr2; rw [bs_size, List.length_replicate] at this; exact this
  generalize hd : bs (digs 16 x) = t at *
  have HD := Lib.hid hd
  clear hd
  go_wp2_with fail
  refine (Tryd.strings_Repeat ⟨#[48]⟩ c _ (by omega) (by show 1 * c ≤ _; omega)).mono ?_
  rintro e w2 ⟨rfl, hb2⟩
  rw [HR.out]
  have HB := Below.self_trans hb1 hb2
  clear hb1 hb2 hq
  go_wp2
  go_ret
  exact ⟨ret_str (by rw [← HD.out]; apply bl_inj; rw [bl_append, bl_bs, bl_bs, bl_bs, HXV.out]; exact HP.out), HB⟩
theorem partLo_calls (n : Nat) (w : World) (hE : Env w) (hn : n < 18446744073709551616) :
    Calls Tryd.prog 20 #[.int .u64 (n : Int), .int .i64 0] w fun e w' => e = .returned (.string (bs (hexN 8 (n % 4294967296)))) ∧ Below w.heap.size w w' := by
  have HH := Lib.hid (halfLo n hn)
  have hx : n % 4294967296 < 16 ^ (7 + 1) := by omega
  clear hn
  go_enter Tryd.func20, Tryd.ntmps20
  go_wp2_with fail
  refine (hex_calls (n % 4294967296) _ _ hE HH.out (by omega)).mono ?_
  rintro e w1 ⟨rfl, hb1⟩
  have HP := Lib.hid (hexN_pad 7 (n % 4294967296) hx)
  have hk := digs_length_le 16 (n % 4294967296) 7 (by omega) hx
  clear hx HH
  generalize hxv : n % 4294967296 = x at *
  have HXV := Lib.hid hxv
  clear hxv
  have hts : (bs (digs 16 x)).size = (digs 16 x).length := bs_size _
  have hq : (8 : Int) - ((bs (digs 16 x)).size : Int) = ((8 - (digs 16 x).length : Nat) : Int) := by rw [hts]; omega
  have hz : (bs (digs 16 x)).size ≤ 8 := by omega
  have hr1 : (⟨(Lib.repeatL (⟨#[48]⟩ : ByteArray).data.toList (8 - (digs 16 x).length)).toArray⟩ : ByteArray) = bs (List.replicate (8 - (digs 16 x).length) 48) := by rw [← rep_zero]; rfl
  have hr2 : (bs (List.replicate (8 - (digs 16 x).length) 48)).size ≤ 8 := by rw [bs_size, List.length_replicate]; omega
  have HR := Lib.hid hr1
  clear hr1 hts
  generalize 8 - (digs 16 x).length = c at *
  have hc : c ≤ 8 := by have := hr2; rw [bs_size, List.length_replicate] at this; exact this
  generalize hd : bs (digs 16 x) = t at *
  have HD := Lib.hid hd
  clear hd
  go_wp2_with fail
  refine (Tryd.strings_Repeat ⟨#[48]⟩ c _ (by omega) (by show 1 * c ≤ _; omega)).mono ?_
  rintro e w2 ⟨rfl, hb2⟩
  rw [HR.out]
  have HB := Below.self_trans hb1 hb2
  clear hb1 hb2 hq
  go_wp2
  go_ret
  exact ⟨ret_str (by rw [← HD.out]; apply bl_inj; rw [bl_append, bl_bs, bl_bs, bl_bs, HXV.out]; exact HP.out), HB⟩

theorem newID_calls (draw serial : Int) (w : World) (hE : Env w) (h1 : In64 draw) (h2 : In64 serial) :
    Calls Tryd.prog 14 #[.int .i64 draw, .int .i64 serial] w fun e w' => e = .returned (.string (idOf (hsum [bs (digs 10 draw.toNat), bs (digs 10 serial.toNat)]).toNat)) ∧ Below w.heap.size w w' := by
  obtain ⟨d1, d2⟩ := h1
  obtain ⟨s1, s2⟩ := h2
  have hz1 : (bs (digs 10 draw.toNat)).size ≤ 64 := by rw [bs_size]; exact digs_len64 10 _ (by omega) (by omega)
  have hz2 : (bs (digs 10 serial.toNat)).size ≤ 64 := by rw [bs_size]; exact digs_len64 10 _ (by omega) (by omega)
  have hn1 := Lib.hid (show draw.toNat ≤ 9223372036854775807 by omega)
  have hn2 := Lib.hid (show serial.toNat ≤ 9223372036854775807 by omega)
  have hmx1 := Lib.hid (show max draw 0 = (draw.toNat : Int) by omega)
  have hmx2 := Lib.hid (show max serial 0 = (serial.toNat : Int) by omega)
  clear d1 d2 s1 s2
  go_enter Tryd.func14, Tryd.ntmps14
  go_wp2_with fail
  refine (decimal_calls draw.toNat _ _ hE hmx1.out hn1.out).mono ?_
  rintro e w1 ⟨rfl, hb1⟩
  go_wp2_with fail
  refine (decimal_calls serial.toNat _ _ (hE.below hb1) hmx2.out hn2.out).mono ?_
  rintro e w2 ⟨rfl, hb2⟩
  have HB2 := Below.self_trans hb1 hb2
  clear hb1 hb2 hmx1 hmx2 hn1 hn2
  generalize hx1 : bs (digs 10 draw.toNat) = x1 at *
  generalize hx2 : bs (digs 10 serial.toNat) = x2 at *
  have HX1 := Lib.hid hx1
  have HX2 := Lib.hid hx2
  clear hx1 hx2
  have hz3 : ∀ s ∈ [x1, x2], s.size ≤ maxLen := by
    intro s hs
    simp only [List.mem_cons, List.not_mem_nil, or_false] at hs
    rcases hs with rfl | rfl <;> (simp [maxLen]; omega)
  go_wp2_with fail
  refine (hashSum_calls _ [x1, x2] _ (rds_lit w2 [x1, x2] _ _ _ rfl rfl rfl (by simp)) hz3).mono ?_
  rintro e w3 ⟨rfl, hb3⟩
  have HB3 := Below.self_trans HB2 (kept_below hb3)
  obtain ⟨g1, g2⟩ := hsum_bd [x1, x2]
  clear hb3 HB2 hz3 hz1 hz2
  generalize hh : hsum [x1, x2] = h at *
  have HH := Lib.hid hh
  clear hh
  obtain ⟨n, rfl⟩ := Int.eq_ofNat_of_zero_le g1
  have HN := Lib.hid (show n < 18446744073709551616 by omega)
  clear g1 g2
  go_wp2_with fail
  refine (partHi_calls n _ (hE.below HB3) HN.out).mono ?_
  rintro e w4 ⟨rfl, hb4⟩
  have HB4 := Below.self_trans HB3 hb4
  go_wp2_with fail
  refine (partLo_calls n _ (hE.below HB4) HN.out).mono ?_
  rintro e w5 ⟨rfl, hb5⟩
  have HB5 := Below.self_trans HB4 hb5
  clear hb4 hb5 HB3 HB4
  have hl1 : (bs (hexN 8 (n / 4294967296))).size ≤ 8 := by rw [bs_size, hexN_length]; omega
  have hl2 : (bs (hexN 8 (n % 4294967296))).size ≤ 8 := by rw [bs_size, hexN_length]; omega
  go_wp2
  go_ret
  exact ⟨ret_str (by rw [HX1.out, HX2.out, HH.out]; apply bl_inj; rw [bl_append, bl_bs, bl_bs, idOf, bl_bs]; exact (hexN_add 8 8 n).symm), HB5⟩

/-- the bucket of a client -/
def bucketI (salt id : ByteArray) : Int := hsum [salt, id] % 10000
theorem bucketI_bd (salt id : ByteArray) : 0 ≤ bucketI salt id ∧ bucketI salt id < 10000 := by unfold bucketI; omega
theorem bof_calls (salt id : ByteArray) (w : World) (h1 : salt.size ≤ maxLen) (h2 : id.size ≤ maxLen) :
    Calls Tryd.prog 11 #[.string salt, .string id] w fun e w' => e = .returned (.int .i64 (bucketI salt id)) ∧ Below w.heap.size w w' := by
  have hz3 : ∀ s ∈ [salt, id], s.size ≤ maxLen := by
    intro s hs
    simp only [List.mem_cons, List.not_mem_nil, or_false] at hs
    rcases hs with rfl | rfl <;> assumption
  go_enter Tryd.func11, Tryd.ntmps11
  go_wp2_with fail
  refine (hashSum_calls _ [salt, id] _ (rds_lit w [salt, id] _ _ _ rfl rfl rfl (by simp)) hz3).mono ?_
  rintro e w1 ⟨rfl, hb1⟩
  have HB := kept_below hb1
  obtain ⟨g1, -⟩ := hsum_bd [salt, id]
  have HI := Lib.hid (show bucketI salt id = hsum [salt, id] % 10000 from rfl)
  generalize hsum [salt, id] = h at *
  clear hb1 hz3
  go_wp2
  go_ret
  exact ⟨ret_int (by rw [HI.out]), HB⟩
theorem refBucket_calls (salt id : ByteArray) (w : World) (h1 : salt.size ≤ maxLen) (h2 : id.size ≤ maxLen) :
    Calls Tryd.prog 12 #[.string salt, .string id] w fun e w' => e = .returned (.int .i64 (bucketI salt id)) ∧ Below w.heap.size w w' := by
  have hz3 : ∀ s ∈ [salt, id], s.size ≤ maxLen := by
    intro s hs
    simp only [List.mem_cons, List.not_mem_nil, or_false] at hs
    rcases hs with rfl | rfl <;> assumption
  go_enter Tryd.func12, Tryd.ntmps12
  go_wp2_with fail
  refine (refSum_calls _ [salt, id] _ (rds_lit w [salt, id] _ _ _ rfl rfl rfl (by simp)) hz3).mono ?_
  rintro e w1 ⟨rfl, hb1⟩
  have HB := kept_below hb1
  obtain ⟨g1, -⟩ := hsum_bd [salt, id]
  have HI := Lib.hid (show bucketI salt id = hsum [salt, id] % 10000 from rfl)
  generalize hsum [salt, id] = h at *
  clear hb1 hz3
  go_wp2
  go_ret
  exact ⟨ret_int (by rw [HI.out]), HB⟩

def canB (b t : Int) : Bool := decide (0 ≤ b) && decide (b < t)
theorem canary_calls (b t : Int) (w : World) :
    Calls Tryd.prog 13 #[.int .i64 b, .int .i64 t] w fun e w' => e = .returned (.bool (canB b t)) ∧ w = w' := by
  unfold canB
  go_enter Tryd.func13, Tryd.ntmps13
  by_cases h1 : 0 ≤ b
  · by_cases h2 : b < t
    · rw [decide_eq_true h1, decide_eq_true h2]
      go_wp2
      go_ret
      exact ⟨rfl, rfl⟩
    · rw [decide_eq_true h1, decide_eq_false h2]
      go_wp2
      go_ret
      exact ⟨rfl, rfl⟩
  · rw [decide_eq_false h1, Bool.false_and]
    go_wp2
    go_ret
    exact ⟨rfl, rfl⟩
theorem count_calls (t : Int) (w : World) :
    Calls Tryd.prog 8 #[.int .i64 t] w fun e w' => e = .returned (.int .i64 (min (max t 0) 10000)) ∧ w = w' := by
  go_enter Tryd.func8, Tryd.ntmps8
  go_wp2
  go_ret
  exact ⟨rfl, rfl⟩
theorem refCount_calls (t : Int) (w : World) :
    Calls Tryd.prog 10 #[.int .i64 t] w fun e w' => e = .returned (.int .i64 (min (max t 0) 10000)) ∧ w = w' := by
  go_enter Tryd.func10, Tryd.ntmps10
  go_wp2
  go_ret
  exact ⟨rfl, rfl⟩

theorem cb1 : canB 99 100 = true := by decide
theorem cb2 : canB 100 100 = false := by decide
theorem cb3 : canB (-1) 100 = false := by decide
theorem cb4 : min (max (7 : Int) 0) 10000 = 7 := by decide
theorem awake15_calls (w : World) (hE : Env w) : Calls Tryd.prog 9 #[] w fun e w' => e = .returned (.bool true) ∧ Below w.heap.size w w' := by
  have hid := Lib.hid (idOf_size (hsum [bs (digs 10 (1 : Int).toNat), bs (digs 10 (2 : Int).toNat)]).toNat)
  go_enter Tryd.func9, Tryd.ntmps9
  go_wp2_with fail
  refine (canary_calls _ _ _).mono ?_
  rintro e w1 ⟨rfl, rfl⟩
  rw [cb1]
  go_wp2_with fail
  refine (canary_calls _ _ _).mono ?_
  rintro e w1 ⟨rfl, rfl⟩
  rw [cb2]
  go_wp2_with fail
  refine (canary_calls _ _ _).mono ?_
  rintro e w1 ⟨rfl, rfl⟩
  rw [cb3]
  go_wp2_with fail
  refine (count_calls _ _).mono ?_
  rintro e w1 ⟨rfl, rfl⟩
  rw [cb4]
  go_wp2_with fail
  refine (newID_calls 1 2 _ hE ⟨by decide, by decide⟩ ⟨by decide, by decide⟩).mono ?_
  rintro e w1 ⟨rfl, hb⟩
  generalize idOf (hsum [bs (digs 10 (1 : Int).toNat), bs (digs 10 (2 : Int).toNat)]).toNat = x at *
  have hx := hid.out
  have hx2 : ((x.size : Int) == 16) = true := by rw [hx]; rfl
  clear hx hid
  go_wp2
  go_ret
  exact ⟨rfl, hb⟩

theorem bucketCount_core (weight : Int) (raw : Bool) (w : World) (hE : Env w) (hw : In64 weight) :
    Calls Tryd.prog 3 #[.int .i64 weight, .bool raw] w fun e w' => e = .returned (.bool true) ∧ Below w.heap.size w w' := by
  go_enter Tryd.func3, Tryd.ntmps3
  cases raw with
  | true =>
    go_wp2_with fail
    refine (count_calls _ _).mono ?_
    rintro e w1 ⟨rfl, rfl⟩
    go_wp2_with fail
    refine (refCount_calls _ _).mono ?_
    rintro e w1 ⟨rfl, rfl⟩
    generalize min (max weight 0) 10000 = x
    go_wp2_with fail
    refine (awake15_calls _ hE).mono ?_
    rintro e w1 ⟨rfl, hb⟩
    go_wp2
    go_ret
    exact ⟨rfl, hb⟩
  | false =>
    obtain ⟨b1, b2⟩ := within_bd weight 10001 (by omega)
    go_wp2_with fail
    refine (within_calls weight 10001 _ hw (by omega) (by omega)).mono ?_
    rintro e w1 ⟨rfl, rfl⟩
    generalize within weight 10001 = x at *
    have hx := Lib.hid (show min (max x 0) 10000 = x by omega)
    have hxx : (x == x) = true := beq_self_eq_true x
    go_wp2_with fail
    refine (count_calls _ _).mono ?_
    rintro e w1 ⟨rfl, rfl⟩
    rw [hx.out]
    go_wp2_with fail
    refine (awake15_calls _ hE).mono ?_
    rintro e w1 ⟨rfl, hb⟩
    go_wp2
    go_ret
    exact ⟨rfl, hb⟩

theorem bucketOf_core (salt id : ByteArray) (weight : Int) (w : World) (hE : Env w) (h1 : salt.size ≤ maxLen) (h2 : id.size ≤ maxLen) :
    Calls Tryd.prog 4 #[.string salt, .string id, .int .i64 weight] w fun e w' => e = .returned (.bool true) ∧ Below w.heap.size w w' := by
  obtain ⟨b1, b2⟩ := bucketI_bd salt id
  go_enter Tryd.func4, Tryd.ntmps4
  go_wp2_with fail
  refine (bof_calls salt id _ h1 h2).mono ?_
  rintro e w1 ⟨rfl, hb1⟩
  go_wp2_with fail
  refine (refBucket_calls salt id _ h1 h2).mono ?_
  rintro e w2 ⟨rfl, hb2⟩
  have HB2 := Below.self_trans hb1 hb2
  generalize bucketI salt id = x at *
  have hc := Lib.hid (show canB x weight = decide (x < weight) by simp [canB, b1])
  go_wp2_with fail
  refine (canary_calls _ _ _).mono ?_
  rintro e w1 ⟨rfl, rfl⟩
  rw [hc.out]
  go_wp2_with fail
  refine (awake15_calls _ (hE.below HB2)).mono ?_
  rintro e w3 ⟨rfl, hb3⟩
  have HB3 := Below.self_trans HB2 hb3
  go_wp2
  go_ret
  exact ⟨rfl, HB3⟩

theorem bucketStays_core (salt id : ByteArray) (a more : Int) (w : World) (hE : Env w) (h1 : salt.size ≤ maxLen) (h2 : id.size ≤ maxLen) (ha : In64 a) (hm : In64 more) :
    Calls Tryd.prog 5 #[.string salt, .string id, .int .i64 a, .int .i64 more] w fun e w' => e = .returned (.bool true) ∧ Below w.heap.size w w' := by
  obtain ⟨b1, b2⟩ := bucketI_bd salt id
  obtain ⟨c1, c2⟩ := within_bd a 10001 (by omega)
  go_enter Tryd.func5, Tryd.ntmps5
  go_wp2_with fail
  refine (within_calls a 10001 _ ha (by omega) (by omega)).mono ?_
  rintro e w1 ⟨rfl, rfl⟩
  generalize within a 10001 = x at *
  obtain ⟨d1, d2⟩ := within_bd more (10001 - x) (by omega)
  go_wp2_with fail
  refine (within_calls more (10001 - x) _ hm (by omega) (by omega)).mono ?_
  rintro e w1 ⟨rfl, rfl⟩
  generalize within more (10001 - x) = y at *
  go_wp2_with fail
  refine (bof_calls salt id _ h1 h2).mono ?_
  rintro e w1 ⟨rfl, hb1⟩
  generalize bucketI salt id = n at *
  have hc1 := Lib.hid (show canB n 10000 = true by simp [canB]; omega)
  have hc2 := Lib.hid (show canB n 0 = false by simp [canB] <;> omega)
  have HE1 := hE.below hb1
  by_cases hlt : n < x
  · have hc3 := Lib.hid (show canB n x = true by simp [canB]; omega)
    have hc4 := Lib.hid (show canB n (x + y) = true by simp [canB]; omega)
    go_wp2_with fail
    refine (canary_calls _ _ _).mono ?_
    rintro e w1 ⟨rfl, rfl⟩
    rw [hc3.out]
    go_wp2_with fail
    refine (canary_calls _ _ _).mono ?_
    rintro e w1 ⟨rfl, rfl⟩
    rw [hc4.out]
    go_wp2_with fail
    refine (canary_calls _ _ _).mono ?_
    rintro e w1 ⟨rfl, rfl⟩
    rw [hc1.out]
    go_wp2_with fail
    refine (canary_calls _ _ _).mono ?_
    rintro e w1 ⟨rfl, rfl⟩
    rw [hc2.out]
    go_wp2_with fail
    refine (awake15_calls _ HE1).mono ?_
    rintro e w3 ⟨rfl, hb3⟩
    have HB3 := Below.self_trans hb1 hb3
    go_wp2
    go_ret
    exact ⟨rfl, HB3⟩
  · have hc3 := Lib.hid (show canB n x = false by simp [canB]; omega)
    go_wp2_with fail
    refine (canary_calls _ _ _).mono ?_
    rintro e w1 ⟨rfl, rfl⟩
    rw [hc3.out]
    go_wp2_with fail
    refine (canary_calls _ _ _).mono ?_
    rintro e w1 ⟨rfl, rfl⟩
    rw [hc1.out]
    go_wp2_with fail
    refine (canary_calls _ _ _).mono ?_
    rintro e w1 ⟨rfl, rfl⟩
    rw [hc2.out]
    go_wp2_with fail
    refine (awake15_calls _ HE1).mono ?_
    rintro e w3 ⟨rfl, hb3⟩
    have HB3 := Below.self_trans hb1 hb3
    go_wp2
    go_ret
    exact ⟨rfl, HB3⟩

theorem idOf_idB (h : Nat) : idB (idOf h) = true := by
  have e : (bl (idOf h)).all hexc = true := by
    rw [idOf, bl_bs, List.all_eq_true]
    intro c hc
    obtain ⟨d, hd, rfl⟩ := hexN_mem hc
    have := hexD_hex d hd
    simp [hexc, digitB]
    omega
  unfold idB
  rw [e, idOf_size]; rfl
theorem bucketID_core (draw serial : Int) (w : World) (hE : Env w) (h1 : In64 draw) (h2 : In64 serial) :
    Calls Tryd.prog 6 #[.int .i64 draw, .int .i64 serial] w fun e w' => e = .returned (.bool true) ∧ Below w.heap.size w w' := by
  have hid := Lib.hid (idOf_idB (hsum [bs (digs 10 draw.toNat), bs (digs 10 serial.toNat)]).toNat)
  have hsz := idOf_size (hsum [bs (digs 10 draw.toNat), bs (digs 10 serial.toNat)]).toNat
  have hsz2 : (idOf (hsum [bs (digs 10 draw.toNat), bs (digs 10 serial.toNat)]).toNat).size ≤ maxLen := by rw [hsz]; decide
  clear hsz
  go_enter Tryd.func6, Tryd.ntmps6
  go_wp2_with fail
  refine (newID_calls draw serial _ hE h1 h2).mono ?_
  rintro e w1 ⟨rfl, hb1⟩
  go_wp2_with fail
  refine (refNewID_calls draw serial _ h1 h2).mono ?_
  rintro e w2 ⟨rfl, hb2⟩
  have HB2 := Below.self_trans hb1 hb2
  generalize idOf (hsum [bs (digs 10 draw.toNat), bs (digs 10 serial.toNat)]).toNat = x at *
  go_wp2_with fail
  refine (cid_calls x _ hsz2).mono ?_
  rintro e w3 ⟨rfl, hb3⟩
  rw [hid.out]
  have HB3 := Below.self_trans HB2 hb3
  go_wp2_with fail
  refine (awake15_calls _ (hE.below HB3)).mono ?_
  rintro e w4 ⟨rfl, hb4⟩
  have HB4 := Below.self_trans HB3 hb4
  go_wp2
  go_ret
  exact ⟨rfl, HB4⟩
end Go.Proofs.YtkendcaldeabeaaDoor
