/- The core of LineRequest. -/
import Derived.Test.YtajohphiclbjkaaDoorRRX07
import Derived.Test.YtajohphiclbjkaaDoorRRSrcR
namespace Go.Proofs.YtajohphiclbjkaaDoorRR
open Go.RowKit Go.Own
set_option linter.unusedVariables false
set_option maxHeartbeats 2000000

theorem made_size {m t : ByteArray} {n : Int} {x : List Fld} {fr : Bool} {b : List UInt8} (h : MadeR m t n x fr b) : m.size ≤ 4 ∧ t.size ≤ 8 := ⟨(reqMs_ok m h.1.1).2, (reqTs_ok t h.1.2.1).2⟩
theorem made_ok {m t : ByteArray} {n : Int} {x : List Fld} {fr : Bool} {b : List UInt8} (h : MadeR m t n x fr b) : okReq m t n = true := by
  obtain ⟨⟨h1, h2, h3⟩, -⟩ := h
  unfold okReq
  rw [(reqMs_ok m h1).1, (reqTs_ok t h2).1]
  rcases h3 with rfl | rfl <;> rfl

set_option maxRecDepth 100000 in
theorem lineRequest_core (line : ByteArray) (vl : Value) (l : List Int) (at0 : Int) (c : UInt8) (wild : Int) (w : World) (hE : Env w) (Hl : RdI w vl l) (h1 : line.size ≤ 1048576) (hat : In64 at0) (hw : In64 wild) :
    Calls Tryd.prog 3 #[.string line, vl, .int .i64 at0, .int .u8 (c.toNat : Int), .int .i64 wild] w fun e w' => e = .returned (.bool true) ∧ Below w.heap.size w w' := by
  obtain ⟨⟨al, cl, rfl, h11, h12, h13, hc⟩, hin⟩ := Hl
  have HB0 := Below.refl w.heap.size w
  have PA := Lib.hid (fun w hE => awake07_calls w hE)
  have HS := Lib.hid (src_new w al l cl hc h11 h12 h13 hin)
  clear hc hin h13
  go_enter Tryd.func3, Tryd.ntmps3
  go_upto_if 17 with fail
  go_cut [0] (fun s0 wx => ∃ t : ByteArray, s0 = .string t ∧ t.size ≤ 2000000 ∧ Below w.heap.size w wx)
  case first =>
    cases ht1 : (bits BinOp.and IntKind.i64 wild 1 == 0) with
    | false =>
      go_wp2_with fail
      go_meet
      case rel => exact ⟨line, rfl, by omega, HB0⟩
    | true =>
      go_wp2_with fail
      refine (request_calls w.heap.size l _ HS.out).mono ?_
      rintro e w1 ⟨⟨m, t, n, vf, x, fr, vb, b, rfl, hm, -, -⟩, hg, -⟩
      have hB1 := below_new hg
      obtain ⟨hm4, ht8⟩ := made_size hm
      clear hg hm
      go_wp2_with fail
      refine (refFmtReq_calls m t n vf fr vb _ (by omega) (by omega)).mono ?_
      rintro e w2 ⟨rfl, hb2⟩
      have hf := fmtReq_size m t n
      generalize fmtReq m t n = t0 at hf ⊢
      have hB2 := Below.self_trans hB1 hb2
      clear hb2
      cases ht2 : (bits BinOp.and IntKind.i64 wild 2 == 2) with
      | false =>
        go_wp2_with fail
        go_meet
        case rel => exact ⟨t0, rfl, by omega, hB2⟩
      | true =>
        go_wp2_with fail
        refine (spoil_calls t0 at0 c _ (by omega) hat).mono ?_
        rintro e w3 ⟨⟨t1, rfl, hs1⟩, hb3⟩
        have hB3 := Below.self_trans hB2 hb3
        have hf1 : t1.size ≤ m.size + t.size + 10 := by omega
        clear hb3 hs1
        go_wp2_with fail
        go_meet
        case rel => exact ⟨t1, rfl, by omega, hB3⟩
  case rest =>
  clear HS
  obtain ⟨t, rfl, ht, HB1⟩ := hcut
  obtain ⟨m, tg, n, hv⟩ := reqV_form (parseReq t).1
  have C1 := Lib.hid (fun w hE => parseReq_calls t w hE (by omega))
  have C2 := Lib.hid (fun w => refParseReq_calls t w (by omega))
  rw [hv] at C1 C2
  generalize (parseReq t).2 = er at C1 C2
  have CS := Lib.hid (fun w => sameReq_calls m tg n false (.slice none 0 0) (.slice none 0 0) (.slice none 0 0) (.slice none 0 0) [] [] w (rdf_nil w) (rdf_nil w) (rdb_nil w) (rdb_nil w))
  have ee : (er == er) = true := by simp
  clear hv HB0
  go_wp2_with fail
  refine (C1.out _ (hE.below HB1)).mono ?_
  rintro e w1 ⟨rfl, hb1⟩
  have HB2 := Below.self_trans HB1 hb1
  clear hb1 HB1
  go_wp2_with fail
  refine (C2.out _).mono ?_
  rintro e w2 ⟨rfl, hb2⟩
  obtain ⟨⟨c0, c1, c2, c3, c4, c5⟩, -, -⟩ := row6 (row_new hb2)
  have hlt2 := kept_lt hb2
  have HB3 := Below.self_trans HB2 (kept_below hb2)
  clear hb2 HB2
  go_wp2_with fail
  refine (CS.out _).mono ?_
  rintro e w3 ⟨rfl, hb3⟩
  have HB4 := Below.self_trans HB3 (kept_below hb3)
  clear hb3
  go_wp2_with fail
  refine (PA.out _ (hE.below HB4)).mono ?_
  rintro e w4 ⟨rfl, hb4⟩
  go_wp2
  go_ret
  exact ⟨rfl, Below.self_trans HB4 hb4⟩
end Go.Proofs.YtajohphiclbjkaaDoorRR
