/- The core of LineTwice. -/
import Derived.Test.YtajohphiclbjkaaDoorRRR07
namespace Go.Proofs.YtajohphiclbjkaaDoorRR
open Go.RowKit Go.Own
set_option linter.unusedVariables false
set_option maxHeartbeats 2000000

theorem row_newM {w w1 : World} {A B : Obj} (hb : Below ((w.alloc A).alloc B).heap.size ((w.alloc A).alloc B) w1) : w1.heap[w.heap.size + 1]? = some B := by
  have h := row_new hb
  rwa [World.size_alloc] at h
theorem empty_toList : (ByteArray.empty).toList = [] := by decide +kernel
theorem ne_isEmpty {s : ByteArray} (h : s ≠ .empty) : s.toList.isEmpty = false := by
  cases hh : s.toList.isEmpty with
  | false => rfl
  | true => exact absurd ((seq_iff s .empty).1 (by unfold seq; rw [List.isEmpty_iff.1 hh, empty_toList]; rfl)) h

set_option maxRecDepth 100000 in
theorem lineTwice_core (vl : Value) (l : List Int) (status minor : Int) (reason : ByteArray) (w : World) (hE : EnvP w) (Hl : RdI w vl l) (hst : In64 status) (hmi : In64 minor) (h1 : reason.size ≤ 1048576) :
    Calls Tryd.prog 7 #[vl, .int .i64 status, .int .i64 minor, .string reason] w fun e w' => e = .returned (.bool true) ∧ Below w.heap.size w w' := by
  obtain ⟨⟨al, cl, rfl, h11, h12, h13, hc⟩, hin⟩ := Hl
  have PA := Lib.hid (fun w hE => awake07_calls w hE)
  have HS := Lib.hid (src_new w al l cl hc h11 h12 h13 hin)
  clear hc hin h13
  go_enter Tryd.func7, Tryd.ntmps7
  go_wp2_with fail
  refine (request_calls w.heap.size l _ HS.out).mono ?_
  rintro e w1 ⟨⟨m, t, n, vf, x, fr, vb, b, rfl, hm, hof, hob⟩, hg, -⟩
  have HB1 := below_new hg
  obtain ⟨hm4, ht8⟩ := made_size hm
  have HP := Lib.hid (parse_fmtReq (made_ok hm))
  obtain ⟨af, cf, rfl, -, -, -⟩ := owned_slice hof
  obtain ⟨ab, cb, rfl, -, -, -⟩ := owned_slice hob
  have hfs := fmtReq_size m t n
  have CF := Lib.hid (fun va fr vb w hE => fmtReq_calls m t n va fr vb w hE (by omega) (by omega))
  generalize fmtReq m t n = F at hfs HP CF
  have CP := Lib.hid (fun w hE => parseReq_calls F w hE (by omega))
  rw [HP.out] at CP
  simp only [reqV] at CP
  have e1 : (m.toList != m.toList) = false := by simp
  have e2 : (t.toList != t.toList) = false := by simp
  have e3 : (n != n) = false := by simp
  clear hg hm hof hob HS HP
  go_wp2_with fail
  refine (CF.out _ _ _ _ (hE.below (HB1.alloc HB1.size _))).mono ?_
  rintro e w2 ⟨rfl, hb2⟩
  have R1 := Lib.hid (row_new hb2)
  have HB2 := Below.self_trans HB1 (kept_below hb2)
  clear hb2
  go_wp2_with fail
  refine (CP.out _ (hE.env.below HB2)).mono ?_
  rintro e w3 ⟨rfl, hb3⟩
  have R2 := Lib.hid (row_below R1.out hb3)
  have HB3 := Below.self_trans HB2 hb3
  obtain ⟨⟨c0, c1, c2, c3, c4, c5⟩, -, hlt⟩ := row6 R2.out
  clear hb3 R1
  go_wp2_with fail
  refine (within_calls status 500 _ hst (by omega) (by omega)).mono ?_
  rintro e w4 ⟨rfl, rfl⟩
  obtain ⟨b1, b2⟩ := within_bd status 500 (by omega)
  generalize within status 500 = st0 at b1 b2 ⊢
  have HB4 := HB3.alloc HB3.size (.cells #[.string m, .string t, .int .i64 n, .slice none 0 0, .bool false, .slice none 0 0] 27)
  clear c0 c1 c2 c3 c4 c5 R2 HB3
  go_wp2_with fail
  generalize (100 + st0) = ST
  generalize (bits BinOp.and IntKind.i64 minor 1) = mn
  have hsz := fmtSt_size ST mn reason
  have CP2 := Lib.hid (fun w hE => parseSt_calls (fmtSt ST reason mn) w hE (by omega))
  have CF2 := Lib.hid (fun w hE => fmtSt_calls ST reason mn (.slice none 0 0) (.slice none 0 0) w hE (by omega))
  cases hk : okSt ST reason mn with
  | true =>
    rw [parse_fmtSt hk] at CP2
    have hse : stErr (some (ST, reason, mn)) = 0 := rfl
    rw [hse] at CP2
    simp only [repV] at CP2
    have hne := ne_isEmpty (fmtSt_ne hk)
    have CS := Lib.hid (fun w => sameRep_calls ST reason mn (.slice none 0 0) (.slice none 0 0) (.slice none 0 0) (.slice none 0 0) [] [] w (rdf_nil w) (rdf_nil w) (rdb_nil w) (rdb_nil w))
    generalize fmtSt ST reason mn = S at CP2 CF2 hne hsz
    clear hse hk
    refine (CF2.out _ (hE.below (HB4.alloc HB4.size _))).mono ?_
    rintro e w5 ⟨rfl, hb5⟩
    have R3 := Lib.hid (row_newM hb5)
    have HB5 := Below.self_trans (HB4.alloc HB4.size _) hb5
    clear hb5
    go_wp2_with fail
    refine (CP2.out _ (hE.env.below HB5)).mono ?_
    rintro e w6 ⟨rfl, hb6⟩
    obtain ⟨⟨c0, c1, c2, c3, c4⟩, -, hlt⟩ := row5 (row_below R3.out hb6)
    have HB6 := Below.self_trans HB5 hb6
    clear hb6 R3
    go_wp2_with fail
    refine (CS.out _).mono ?_
    rintro e w7 ⟨rfl, hb7⟩
    have HB7 := Below.self_trans HB6 (kept_below hb7)
    clear hb7
    go_wp2_with fail
    refine (PA.out _ (hE.env.below HB7)).mono ?_
    rintro e w8 ⟨rfl, hb8⟩
    go_wp2
    go_ret
    exact ⟨rfl, Below.self_trans HB7 hb8⟩
  | false =>
    rw [fmtSt_no hk] at CP2 CF2
    rw [parseSt_empty] at CP2
    have hse : stErr none = 2 := rfl
    rw [hse] at CP2
    simp only [repV] at CP2
    have hne : (ByteArray.empty).toList.isEmpty = true := by rw [empty_toList]; rfl
    clear hse hk
    refine (CF2.out _ (hE.below (HB4.alloc HB4.size _))).mono ?_
    rintro e w5 ⟨rfl, hb5⟩
    have HB5 := Below.self_trans (HB4.alloc HB4.size _) hb5
    clear hb5
    go_wp2_with fail
    refine (CP2.out _ (hE.env.below HB5)).mono ?_
    rintro e w6 ⟨rfl, hb6⟩
    have HB6 := Below.self_trans HB5 hb6
    have HB7 := HB6.alloc HB6.size (.cells #[.int .i64 0, .string .empty, .int .i64 0, .slice none 0 0, .slice none 0 0] 43)
    clear hb6
    go_wp2_with fail
    refine (PA.out _ (hE.env.below HB7)).mono ?_
    rintro e w8 ⟨rfl, hb8⟩
    go_wp2
    go_ret
    exact ⟨rfl, Below.self_trans HB7 hb8⟩
end Go.Proofs.YtajohphiclbjkaaDoorRR
