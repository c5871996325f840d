/- The reference's NewID. -/
import Derived.Test.YtfmokccoilgpmaaGreatDoorNumR
import Derived.Test.YtfmokccoilgpmaaGreatDoorHash
import Derived.Test.YtfmokccoilgpmaaGreatDoorSource
import Derived.Laws.Bits64b
namespace Go.Proofs.YtfmokccoilgpmaaGreatDoor
open Go.RowKit Go.Own
set_option linter.unusedVariables false
set_option maxHeartbeats 1000000

theorem wrap_u64 (x : Int) : 0 ≤ IntKind.u64.wrap x ∧ IntKind.u64.wrap x < 18446744073709551616 := by
  simp [IntKind.wrap, IntKind.signed, IntKind.bits]
  omega
theorem hsum_bd (l : List ByteArray) : 0 ≤ hsum l ∧ hsum l < 18446744073709551616 := by
  have key : ∀ (l : List ByteArray) (h : Int), 0 ≤ h ∧ h < 18446744073709551616 → 0 ≤ l.foldl (fun h s => hrun (hrun h s.data.toList) [0]) h ∧ l.foldl (fun h s => hrun (hrun h s.data.toList) [0]) h < 18446744073709551616 := by
    intro l
    induction l with
    | nil => exact fun h hh => hh
    | cons s l ih => exact fun h hh => ih _ (wrap_u64 _)
  exact key l hstart ⟨by decide, by decide⟩

theorem rds_lit (w : World) (l : List ByteArray) (cs : Array Value) (n k : Nat) (hcs : cs = (strsV l).toArray) (hn : n = w.heap.size) (hk : k = l.length) (hl : l.length ≤ 1000000) : RdS (w.alloc (.cells cs 9)) (.slice (some ⟨n, 0, none⟩) k k) l := by
  subst hcs hn hk
  exact ⟨_, _, rfl, Nat.le_refl _, by simp [maxLen]; omega, (fun h => nomatch h), RdC_new w (strsV l) 9 (0, 0)⟩
theorem nib (n k : Nat) (hn : n < 18446744073709551616) (hk : k < 16) : wrap64 (bits BinOp.and IntKind.u64 ((n : Int) / 2 ^ (60 - 4 * k)) 15) = ((n / 16 ^ (15 - k) % 16 : Nat) : Int) := by
  have e0 : 16 ^ (15 - k) = 2 ^ (60 - 4 * k) := by
    rw [show (16 : Nat) = 2 ^ 4 from rfl, ← Nat.pow_mul]
    congr 1
    omega
  have e1 : (n : Int) / 2 ^ (60 - 4 * k) = ((n / 16 ^ (15 - k) : Nat) : Int) := by
    rw [e0, Int.natCast_ediv, Int.natCast_pow]; rfl
  rw [e1]
  have h1 : n / 16 ^ (15 - k) ≤ n := Nat.div_le_self _ _
  have e2 := bits_and_u64_nat (n / 16 ^ (15 - k)) 15 (by omega) (by omega)
  have e3 : n / 16 ^ (15 - k) &&& 15 = n / 16 ^ (15 - k) % 16 := Nat.and_two_pow_sub_one_eq_mod _ 4
  rw [e3] at e2
  refine (congrArg wrap64 e2).trans (IntWalk.wrap64_in _ ⟨by omega, by omega⟩)

theorem refNewID_calls (draw serial : Int) (w : World) (h1 : In64 draw) (h2 : In64 serial) :
    Calls Tryz.prog 11 #[.int .i64 draw, .int .i64 serial] w fun e w' => e = .returned (.string (idOf (hsum [bs (digs 10 draw.toNat), bs (digs 10 serial.toNat)]).toNat)) ∧ Below w.heap.size w w' := by
  obtain ⟨d1, d2⟩ := h1
  obtain ⟨s1, s2⟩ := h2
  have hz1 : (bs (digs 10 draw.toNat)).size ≤ 64 := by rw [bs_size]; exact digs_len64 10 _ (by omega) (by omega)
  have hz2 : (bs (digs 10 serial.toNat)).size ≤ 64 := by rw [bs_size]; exact digs_len64 10 _ (by omega) (by omega)
  have hn1 := Lib.hid (show draw.toNat ≤ 9223372036854775807 by omega)
  have hn2 := Lib.hid (show serial.toNat ≤ 9223372036854775807 by omega)
  have hmx1 := Lib.hid (show max draw 0 = (draw.toNat : Int) by omega)
  have hmx2 := Lib.hid (show max serial 0 = (serial.toNat : Int) by omega)
  clear d1 d2 s1 s2
  go_enter Tryz.func11, Tryz.ntmps11
  go_wp2_with fail
  refine (refDecimal_calls draw.toNat _ _ hmx1.out hn1.out).mono ?_
  rintro e w1 ⟨rfl, hb1⟩
  go_wp2_with fail
  refine (refDecimal_calls serial.toNat _ _ hmx2.out hn2.out).mono ?_
  rintro e w2 ⟨rfl, hb2⟩
  have HB2 := Below.self_trans hb1 hb2
  clear hb1 hb2 hmx1 hmx2 hn1 hn2
  generalize hx1 : bs (digs 10 draw.toNat) = x1 at *
  generalize hx2 : bs (digs 10 serial.toNat) = x2 at *
  have HX1 := Lib.hid hx1
  have HX2 := Lib.hid hx2
  clear hx1 hx2
  have hz3 : ∀ s ∈ [x1, x2], s.size ≤ maxLen := by
    intro s hs
    simp only [List.mem_cons, List.not_mem_nil, or_false] at hs
    rcases hs with rfl | rfl <;> (simp [maxLen]; omega)
  go_wp2_with fail
  refine (refSum_calls _ [x1, x2] _ (rds_lit w2 [x1, x2] _ _ _ rfl rfl rfl (by simp)) hz3).mono ?_
  rintro e w3 ⟨rfl, hb3⟩
  have HB3 := Below.self_trans HB2 (kept_below hb3)
  obtain ⟨g1, g2⟩ := hsum_bd [x1, x2]
  clear hb3 HB2 hz3 hz1 hz2
  generalize hh : hsum [x1, x2] = h at *
  have HH := Lib.hid hh
  clear hh
  obtain ⟨n, rfl⟩ := Int.eq_ofNat_of_zero_le g1
  have hn : n < 18446744073709551616 := by omega
  clear g1 g2
  have HN := Lib.hid hn
  clear hn
  go_wp2
  go_loopw [6, 7] (fun s i wr => ∃ k : Nat, k ≤ 16 ∧ i = .int .i64 k ∧ s = .string (bs (hexN k (n / 16 ^ (16 - k)))) ∧ Below w.heap.size w wr) (fun _ i _ => 16 - (intOf i).toNat)
  case atStart => exact ⟨0, Nat.zero_le _, rfl, rfl, HB3⟩
  case round =>
    clear HB3
    obtain ⟨k, hk, rfl, rfl, hb⟩ := hrel
    by_cases hlt : k < 16
    · have hki : (k : Int) < 16 := by omega
      have hsz : (bs (hexN k (n / 16 ^ (16 - k)))).size ≤ 16 := by rw [bs_size, hexN_length]; omega
      have HT := Lib.hid (hexN_next n k hlt)
      have HB := Lib.hid (nib n k HN.out hlt)
      have hd0 : n / 16 ^ (15 - k) % 16 < 16 := Nat.mod_lt _ (by omega)
      generalize n / 16 ^ (15 - k) % 16 = d at *
      go_wp2_with fail
      refine (refHex_calls d _ _ HB.out (by omega)).mono ?_
      rintro e w4 ⟨rfl, hb4⟩
      rw [digs_small hd0]
      have HB4 := Below.self_trans hb hb4
      have hsz2 : (bs [hexD d]).size = 1 := rfl
      have hsz3 : (bs [hexD d]).size ≤ 1 := Nat.le_refl _
      clear hb hb4 HB hsz2
      go_wp2
      go_roundw
      case rel => exact ⟨k + 1, by omega, by go_num, by rw [show 16 - (k + 1) = 15 - k from by omega, HT.out]; exact congrArg Value.string (bl_inj (by rw [bl_append]; rfl)), HB4⟩
      case measure => simp [intOf]; omega
    · have h16 : k = 16 := by omega
      subst h16
      go_wp2
      go_ret
      exact ⟨ret_str (by rw [HX1.out, HX2.out, HH.out]; simp [idOf]), hb⟩
end Go.Proofs.YtfmokccoilgpmaaGreatDoor
