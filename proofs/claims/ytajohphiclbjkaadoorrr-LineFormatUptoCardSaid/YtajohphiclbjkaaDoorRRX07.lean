/- spoil; the core of LineStatus. -/
import Derived.Test.YtajohphiclbjkaaDoorRRLineF
import Derived.Test.YtajohphiclbjkaaDoorRRLineU
import Derived.Test.YtajohphiclbjkaaDoorRRSame
import Derived.Test.YtajohphiclbjkaaDoorRRL07
import Derived.Deep.DeepCutAuto
namespace Go.Proofs.YtajohphiclbjkaaDoorRR
open Go.RowKit Go.Own
set_option linter.unusedVariables false
set_option maxHeartbeats 2000000

set_option maxRecDepth 100000 in
theorem spoil_calls (s : ByteArray) (at0 : Int) (c : UInt8) (w : World) (hs : s.size ≤ 1000000000) (hat : In64 at0) :
    Calls Tryd.prog 14 #[.string s, .int .i64 at0, .int .u8 (c.toNat : Int)] w fun e w' => (∃ t, e = .returned (.string t) ∧ t.size = s.size) ∧ Below w.heap.size w w' := by
  go_enter Tryd.func14, Tryd.ntmps14
  go_wp2_with (refine wpList_strbytes_mut rfl 9 25 _ rfl _ rfl 5 Tryd.underlying9 Tryd.underlying25 Tryd.underlying5 ?_ ?_)
  case refine_2 => simp [maxLen]; omega
  intro g cap w2 hb2 hg1 hg2 hc1 hc2 hmut
  have hN : s.size ≤ 1000000000 := hs
  have hz := size_toList s
  generalize s.data.toList = xs at hmut hz
  generalize hNs : s.size = N at hN hz hc1 ⊢
  have HZ := Lib.hid hz
  have HNs := Lib.hid hNs
  clear hz hNs
  by_cases hpos : 0 < N
  · have hp2 : (0 : Int) < (N : Int) := by omega
    go_wp2_with fail
    refine (within_calls at0 N w2 hat (by omega) (by omega)).mono ?_
    rintro e w3 ⟨rfl, rfl⟩
    obtain ⟨b1, b2⟩ := within_bd at0 (N : Int) (by omega)
    obtain ⟨k, hk⟩ := Int.eq_ofNat_of_zero_le b1
    rw [hk] at b2 ⊢
    have hkN : k < N := by omega
    have hkx : k < (bytesV xs).length := by rw [bytesV_length, ← HZ.out]; exact hkN
    obtain ⟨m0, m1⟩ := hmut k hkx
    have hmut2 := hmut.set k hkx (.int .u8 (c.toNat : Int))
    have hbv : (bytesV xs).set k (.int .u8 (c.toNat : Int)) = bytesV (xs.set k c) := by rw [bytesV, bytesV, List.map_set]; rfl
    rw [hbv] at hmut2
    have hrd := hmut2.rd
    have HB3 : Below w.heap.size w (w2.setCell ⟨g, k, none⟩ (.int .u8 (c.toNat : Int))) := hb2.setCell hg1 _
    have hs3 : (⟨(xs.set k c).toArray⟩ : ByteArray).size = N := by show (xs.set k c).toArray.size = _; have := HZ.out; simp; omega
    have hsl := Lib.hid (show N = (xs.set k c).length by rw [List.length_set, HZ.out])
    generalize (bytesV xs)[k] = u0 at m0
    clear hmut hmut2 hbv hkx hk b1 b2
    go_wp2_with (refine wpList_bytesstr rfl 25 9 _ rfl _ _ _ rfl 5 Tryd.underlying25 Tryd.underlying5 Tryd.underlying9 (xs.set k c) hsl.out hrd ?_)
    go_ret
    exact ⟨⟨_, rfl, hs3.trans HNs.out.symm⟩, HB3⟩
  · have hp2 : ¬ (0 : Int) < (N : Int) := by omega
    have hrd := hmut.rd
    have hsl := Lib.hid (show N = xs.length from HZ.out)
    have hs3 : (⟨xs.toArray⟩ : ByteArray).size = N := by show xs.toArray.size = _; have := HZ.out; simp; omega
    clear hmut
    go_wp2_with (refine wpList_bytesstr rfl 25 9 _ rfl _ _ _ rfl 5 Tryd.underlying25 Tryd.underlying5 Tryd.underlying9 xs hsl.out hrd ?_)
    go_ret
    exact ⟨⟨_, rfl, hs3.trans HNs.out.symm⟩, hb2⟩

theorem rdf_nil (w : World) : RdF w (.slice none 0 0) [] := ⟨none, 0, rfl, Nat.le_refl _, by simp [maxLen], fun _ => rfl, fun k hk => absurd hk (Nat.not_lt_zero _)⟩
theorem rdb_nil (w : World) : RdB w (.slice none 0 0) [] := ⟨none, 0, rfl, Nat.le_refl _, by simp [maxLen], fun _ => rfl, fun k hk => absurd hk (Nat.not_lt_zero _)⟩
theorem repV_form (v : Option (Int × ByteArray × Int)) : ∃ n r m, repV v = .agg #[.int .i64 n, .string r, .int .i64 m, .slice none 0 0, .slice none 0 0] := by
  cases v with
  | none => exact ⟨_, _, _, rfl⟩
  | some p => obtain ⟨n, r, m⟩ := p; exact ⟨_, _, _, rfl⟩
theorem reqV_form (v : Option (ByteArray × ByteArray × Int)) : ∃ m t n, reqV v = .agg #[.string m, .string t, .int .i64 n, .slice none 0 0, .bool false, .slice none 0 0] := by
  cases v with
  | none => exact ⟨_, _, _, rfl⟩
  | some p => obtain ⟨n, r, m⟩ := p; exact ⟨_, _, _, rfl⟩

set_option maxRecDepth 100000 in
theorem lineStatus_core (line reason : ByteArray) (status at0 : Int) (c : UInt8) (wild : Int) (w : World) (hE : Env w) (h1 : line.size ≤ 1048576) (h2 : reason.size ≤ 1048576) (hst : In64 status) (hat : In64 at0) (hw : In64 wild) :
    Calls Tryd.prog 4 #[.string line, .string reason, .int .i64 status, .int .i64 at0, .int .u8 (c.toNat : Int), .int .i64 wild] w fun e w' => e = .returned (.bool true) ∧ Below w.heap.size w w' := by
  have HB0 := Below.refl w.heap.size w
  have PA := Lib.hid (fun w hE => awake07_calls w hE)
  go_enter Tryd.func4, Tryd.ntmps4
  go_upto_if 19 with fail
  go_cut [0] (fun s0 wx => ∃ t : ByteArray, s0 = .string t ∧ t.size ≤ 2000000 ∧ Below w.heap.size w wx)
  case first =>
    cases ht1 : (bits BinOp.and IntKind.i64 wild 1 == 0) with
    | false =>
      go_wp2_with fail
      go_meet
      case rel => exact ⟨line, rfl, by omega, HB0⟩
    | true =>
      go_wp2_with fail
      refine (within_calls status 520 w hst (by omega) (by omega)).mono ?_
      rintro e w1 ⟨rfl, rfl⟩
      obtain ⟨b1, b2⟩ := within_bd status 520 (by omega)
      generalize within status 520 = st0 at b1 b2 ⊢
      go_wp2_with fail
      refine (refFmtSt_calls _ reason _ _ _ _ (by omega)).mono ?_
      rintro e w2 ⟨rfl, hb2⟩
      have hf := fmtSt_size (90 + st0) (bits BinOp.and IntKind.i64 (wild / 4) 1) reason
      generalize fmtSt (90 + st0) reason (bits BinOp.and IntKind.i64 (wild / 4) 1) = t0 at hf ⊢
      have hB2 := Below.self_trans HB0 hb2
      clear hb2
      cases ht2 : (bits BinOp.and IntKind.i64 wild 2 == 2) with
      | false =>
        go_wp2_with fail
        go_meet
        case rel => exact ⟨t0, rfl, by omega, hB2⟩
      | true =>
        go_wp2_with fail
        refine (spoil_calls t0 at0 c _ (by omega) hat).mono ?_
        rintro e w3 ⟨⟨t1, rfl, hs1⟩, hb3⟩
        have hB3 := Below.self_trans hB2 hb3
        have hf1 : t1.size ≤ reason.size + 13 := by omega
        clear hb3 hs1
        go_wp2_with fail
        go_meet
        case rel => exact ⟨t1, rfl, by omega, hB3⟩
  case rest =>
  obtain ⟨t, rfl, ht, HB1⟩ := hcut
  obtain ⟨n, r, m, hv⟩ := repV_form (parseSt t)
  have C1 := Lib.hid (fun w hE => parseSt_calls t w hE (by omega))
  have C2 := Lib.hid (fun w => refParseSt_calls t w (by omega))
  rw [hv] at C1 C2
  generalize stErr (parseSt t) = er at C1 C2
  have CS := Lib.hid (fun w => sameRep_calls n r m (.slice none 0 0) (.slice none 0 0) (.slice none 0 0) (.slice none 0 0) [] [] w (rdf_nil w) (rdf_nil w) (rdb_nil w) (rdb_nil w))
  have ee : (er == er) = true := by simp
  clear hv HB0
  go_wp2_with fail
  refine (C1.out _ (hE.below HB1)).mono ?_
  rintro e w1 ⟨rfl, hb1⟩
  have HB2 := Below.self_trans HB1 hb1
  clear hb1 HB1
  go_wp2_with fail
  refine (C2.out _).mono ?_
  rintro e w2 ⟨rfl, hb2⟩
  obtain ⟨⟨c0, c1, c2, c3, c4⟩, -, -⟩ := row5 (row_new hb2)
  have hlt2 := kept_lt hb2
  have HB3 := Below.self_trans HB2 (kept_below hb2)
  clear hb2 HB2
  go_wp2_with fail
  refine (CS.out _).mono ?_
  rintro e w3 ⟨rfl, hb3⟩
  have HB4 := Below.self_trans HB3 (kept_below hb3)
  clear hb3
  go_wp2_with fail
  refine (PA.out _ (hE.below HB4)).mono ?_
  rintro e w4 ⟨rfl, hb4⟩
  go_wp2
  go_ret
  exact ⟨rfl, Below.self_trans HB4 hb4⟩
end Go.Proofs.YtajohphiclbjkaaDoorRR
