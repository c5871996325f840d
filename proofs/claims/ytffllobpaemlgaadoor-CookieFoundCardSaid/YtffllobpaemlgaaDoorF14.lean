/- CookieFirst's and CookieFound's cores. -/
import Derived.Test.YtffllobpaemlgaaDoorL14
import Derived.Test.YtffllobpaemlgaaDoorNewID
import Derived.Test.YtffllobpaemlgaaDoorPairQ
import Derived.Deep.RegionWith
namespace Go.Proofs.YtffllobpaemlgaaDoor
open Go.RowKit Go.Own
set_option linter.unusedVariables false
set_option maxHeartbeats 1000000

theorem vals_one (v : ByteArray) : valuesS [⟨⟨#[67, 111, 111, 107, 105, 101]⟩, v⟩] cookieS = [v] := by
  have e : foldB (⟨#[67, 111, 111, 107, 105, 101]⟩ : ByteArray) cookieS = true := by decide +kernel
  simp [valuesS, e]
theorem vals_two (v u : ByteArray) : valuesS [⟨⟨#[67, 111, 111, 107, 105, 101]⟩, v⟩, ⟨⟨#[67, 79, 79, 75, 73, 69]⟩, u⟩] cookieS = [v, u] := by
  have e : foldB (⟨#[67, 111, 111, 107, 105, 101]⟩ : ByteArray) cookieS = true := by decide +kernel
  have e2 : foldB (⟨#[67, 79, 79, 75, 73, 69]⟩ : ByteArray) cookieS = true := by decide +kernel
  simp [valuesS, e, e2]

theorem refNewID_ex (draw serial : Int) (w : World) (h1 : In64 draw) (h2 : In64 serial) :
    Calls Tryd.prog 19 #[.int .i64 draw, .int .i64 serial] w fun e w' => (∃ x : ByteArray, e = .returned (.string x) ∧ x.size = 16 ∧ (bl x).all hexc = true) ∧ Below w.heap.size w w' :=
  (refNewID_calls draw serial w h1 h2).mono fun e w' ⟨he, hb⟩ => ⟨⟨_, he, idOf_size _, idOf_all _⟩, hb⟩

theorem cookieFirst_core (a b : Int) (w : World) (hE : Env w) (ha : In64 a) (hb : In64 b) :
    Calls Tryd.prog 5 #[.int .i64 a, .int .i64 b] w fun e w' => e = .returned (.bool true) ∧ Below w.heap.size w w' := by
  go_enter Tryd.func5, Tryd.ntmps5
  go_wp2_with fail
  refine (refNewID_ex a 1 _ ha ⟨by decide, by decide⟩).mono ?_
  rintro e w1 ⟨⟨x, rfl, hx, hxa⟩, hb1⟩
  go_wp2_with fail
  refine (refNewID_ex b 2 _ hb ⟨by decide, by decide⟩).mono ?_
  rintro e w2 ⟨⟨y, rfl, hy, -⟩, hb2⟩
  have HB2 := Below.self_trans hb1 hb2
  clear hb1 hb2
  have hx2 : x.size ≤ 16 := by omega
  have hy2 : y.size ≤ 16 := by omega
  have H1 := Lib.hid (find_first x y hxa)
  have H2 := Lib.hid (find_second x y hxa)
  have HV1 := Lib.hid (vals_one ((⟨#[99, 61]⟩ : ByteArray) ++ x ++ ⟨#[59, 32, 99, 61]⟩ ++ y))
  have HV2 := Lib.hid (vals_two ((⟨#[99, 61]⟩ : ByteArray) ++ x) ((⟨#[99, 61]⟩ : ByteArray) ++ y))
  have hz1 := Lib.hid (show fsize [⟨⟨#[67, 111, 111, 107, 105, 101]⟩, (⟨#[99, 61]⟩ : ByteArray) ++ x ++ ⟨#[59, 32, 99, 61]⟩ ++ y⟩] ≤ 2000000 by unfold fsize; simp only [List.map_cons, List.map_nil, List.sum_cons, List.sum_nil, ByteArray.size_append]; have c2 : (⟨#[99, 61]⟩ : ByteArray).size = 2 := rfl; have c4 : (⟨#[59, 32, 99, 61]⟩ : ByteArray).size = 4 := rfl; have c6 : (⟨#[67, 111, 111, 107, 105, 101]⟩ : ByteArray).size = 6 := rfl; have d6 : (⟨#[67, 79, 79, 75, 73, 69]⟩ : ByteArray).size = 6 := rfl; omega)
  have hz2 := Lib.hid (show fsize [⟨⟨#[67, 111, 111, 107, 105, 101]⟩, (⟨#[99, 61]⟩ : ByteArray) ++ x⟩, ⟨⟨#[67, 79, 79, 75, 73, 69]⟩, (⟨#[99, 61]⟩ : ByteArray) ++ y⟩] ≤ 2000000 by unfold fsize; simp only [List.map_cons, List.map_nil, List.sum_cons, List.sum_nil, ByteArray.size_append]; have c2 : (⟨#[99, 61]⟩ : ByteArray).size = 2 := rfl; have c4 : (⟨#[59, 32, 99, 61]⟩ : ByteArray).size = 4 := rfl; have c6 : (⟨#[67, 111, 111, 107, 105, 101]⟩ : ByteArray).size = 6 := rfl; have d6 : (⟨#[67, 79, 79, 75, 73, 69]⟩ : ByteArray).size = 6 := rfl; omega)
  clear hxa hx hy
  go_wp2_with fail
  refine (find_calls _ [⟨⟨#[67, 111, 111, 107, 105, 101]⟩, (⟨#[99, 61]⟩ : ByteArray) ++ x ++ ⟨#[59, 32, 99, 61]⟩ ++ y⟩] _ _ ((hE.below HB2).below ((Below.refl _ _).alloc (Nat.le_refl _) _)) (rdf_new' w2 [⟨⟨#[67, 111, 111, 107, 105, 101]⟩, (⟨#[99, 61]⟩ : ByteArray) ++ x ++ ⟨#[59, 32, 99, 61]⟩ ++ y⟩] _ _ _ rfl rfl rfl (by simp)) hz1.out).mono ?_
  rintro e w3 ⟨rfl, hb3⟩
  rw [HV1.out, show findP (pairsS [(⟨#[99, 61]⟩ : ByteArray) ++ x ++ ⟨#[59, 32, 99, 61]⟩ ++ y]) ⟨#[99]⟩ = some ⟨nameC, x⟩ from H1.out]
  unfold findV
  simp only
  have HB3 := Below.self_trans HB2 (kept_below hb3)
  clear hb3 HB2
  go_wp2_with fail
  refine (find_calls _ [⟨⟨#[67, 111, 111, 107, 105, 101]⟩, (⟨#[99, 61]⟩ : ByteArray) ++ x⟩, ⟨⟨#[67, 79, 79, 75, 73, 69]⟩, (⟨#[99, 61]⟩ : ByteArray) ++ y⟩] _ _ ((hE.below HB3).below ((Below.refl _ _).alloc (Nat.le_refl _) _)) (rdf_new' w3 [⟨⟨#[67, 111, 111, 107, 105, 101]⟩, (⟨#[99, 61]⟩ : ByteArray) ++ x⟩, ⟨⟨#[67, 79, 79, 75, 73, 69]⟩, (⟨#[99, 61]⟩ : ByteArray) ++ y⟩] _ _ _ rfl rfl rfl (by simp)) hz2.out).mono ?_
  rintro e w4 ⟨rfl, hb4⟩
  rw [HV2.out, show findP (pairsS [(⟨#[99, 61]⟩ : ByteArray) ++ x, (⟨#[99, 61]⟩ : ByteArray) ++ y]) ⟨#[99]⟩ = some ⟨nameC, x⟩ from H2.out]
  unfold findV
  simp only
  have HB4 := Below.self_trans HB3 (kept_below hb4)
  clear hb4 HB3
  go_wp2_with fail
  refine (awake14_calls _ (hE.below HB4)).mono ?_
  rintro e w5 ⟨rfl, hb5⟩
  have HB5 := Below.self_trans HB4 hb5
  go_wp2
  go_ret
  exact ⟨rfl, HB5⟩

theorem byte_one (c : UInt8) : ∀ u ∈ [Value.int .u8 (c.toNat : Int)], u.oneCell' = true := by
  intro u hu
  rw [List.mem_singleton] at hu
  rw [hu]; rfl
theorem hasB_snoc {l : List UInt8} {x d : UInt8} (h : hasB l d = false) (hx : x ≠ d) : hasB (l ++ [x]) d = false := by
  rw [hasB_append, h]; simp [hasB, hx]
theorem safe_calls (s : ByteArray) (w : World) (hs : s.size ≤ maxLen) :
    Calls Tryd.prog 20 #[.string s] w fun e w' => (∃ v l, e = .returned v ∧ RdB w' v l ∧ hasB l 59 = false ∧ l.length ≤ 30) ∧ Below w.heap.size w w' := by
  unfold maxLen at hs
  have HL := Lib.hid (bl_length s)
  go_enter Tryd.func20, Tryd.ntmps20
  go_wp2
  go_loopw [3, 4] (fun v i wr => ∃ (k : Nat) (cur : List UInt8), k ≤ s.size ∧ k ≤ 30 ∧ cur.length ≤ k ∧ i = .int .i64 k ∧ wr.ownsRow w.heap.size 5 1 v cur.length (bytesV cur) ∧ Below w.heap.size w wr ∧ Hid (hasB cur 59 = false)) (fun _ i _ => s.size - (intOf i).toNat)
  case atStart => exact ⟨0, [], Nat.zero_le _, by omega, Nat.le_refl _, rfl, World.ownsRow_nil _ _ _ _, Below.refl _ _, Lib.hid rfl⟩
  case round =>
    obtain ⟨k, cur, hk, hk30, hck, rfl, hown, hb, HD⟩ := hrel
    obtain ⟨a0, c0, rfl, -, -, -⟩ := owned_slice hown
    by_cases hlt : k < s.size
    · have hki : (k : Int) < (s.size : Int) := by omega
      by_cases h30 : k < 30
      · have hk3 : (k : Int) < 30 := by omega
        obtain ⟨x, hx, hsx⟩ := byte_split s k hlt
        by_cases he : x = 59
        · have hg : ((x.toNat : Int) != 59) = false := by rw [he]; rfl
          clear hx he
          go_wp2
          go_roundw
          case rel => exact ⟨k + 1, cur, by omega, by omega, by omega, by go_num, hown, hb, HD⟩
          case measure => simp [intOf]; omega
        · have hg : ((x.toNat : Int) != 59) = true := by
            rw [bne_iff_ne]; intro e; exact he (UInt8.toNat_inj.1 (by rw [show (59 : UInt8).toNat = 59 from rfl]; omega))
          have HN := Lib.hid (hasB_snoc HD.out he)
          have hroom : (cur.length + 1) * 1 ≤ 140737488355328 := by omega
          have hroom2 : cur.length + 1 ≤ maxLen := by simp [maxLen]; omega
          clear hx he HD
          go_wp2_with (at_builtin; refine wpList_append_one rfl (.tmp 19) (.tmp 23) 22 rfl w hb 5 (.int .u8 0) 1 1 Tryd.underlying22 info_u8 rfl Nat.one_pos a0 cur.length c0 (bytesV cur) [.int .u8 (x.toNat : Int)] rfl (byte_one x) rfl hown rfl hroom hroom2 ?_; intro a1 c1 w1 hb1 hown1 hg1 _)
          have hown2 : w1.ownsRow w.heap.size 5 1 (.slice a1 (cur.length + 1) c1) (cur ++ [x]).length (bytesV (cur ++ [x])) := by
            have e1 : (cur ++ [x]).length = cur.length + 1 := by simp
            have e2 : bytesV (cur ++ [x]) = bytesV cur ++ [.int .u8 (x.toNat : Int)] := by simp [bytesV, byteV]
            rw [e1, e2]; exact hown1
          clear hown hown1 hg1
          go_roundw
          case rel => exact ⟨k + 1, cur ++ [x], by omega, by omega, by simp; omega, by go_num, hown2, hb1, HN⟩
          case measure => simp [intOf]; omega
      · have hk3 : ¬ (k : Int) < 30 := by omega
        have hr := Rd_owned hown
        have hc30 : cur.length ≤ 30 := by omega
        have HN := HD.out
        have HR := Lib.hid (show RdB wr (.slice a0 cur.length c0) cur from hr)
        clear hown hr
        go_wp2
        go_ret
        first
          | exact ⟨⟨_, cur, rfl, HR.out, HN, hc30⟩, hb⟩
          | exact ⟨⟨_, rfl, cur, HR.out, HN, hc30⟩, hb⟩
    · have hki : ¬ (k : Int) < (s.size : Int) := by omega
      have hr := Rd_owned hown
      have hc30 : cur.length ≤ 30 := by omega
      have HN := HD.out
      have HR := Lib.hid (show RdB wr (.slice a0 cur.length c0) cur from hr)
      clear hown hr
      go_wp2
      go_ret
      first
        | exact ⟨⟨_, cur, rfl, HR.out, HN, hc30⟩, hb⟩
        | exact ⟨⟨_, rfl, cur, HR.out, HN, hc30⟩, hb⟩

theorem issueT_cut (x : ByteArray) (h : x.size = 16) : (issueT nameCohort x).extract 0 23 = (⟨#[99, 111, 104, 111, 114, 116, 61]⟩ : ByteArray) ++ x ∧ (issueT nameCohort x).size = 41 := by
  have e : bl (issueT nameCohort x) = (bl ((⟨#[99, 111, 104, 111, 114, 116, 61]⟩ : ByteArray) ++ x)) ++ bl (⟨#[59, 32, 80, 97, 116, 104, 61, 47, 59, 32, 72, 116, 116, 112, 79, 110, 108, 121]⟩ : ByteArray) := by
    unfold issueT
    rw [bl_append, bl_append, bl_append, bl_append]
    simp [bl, nameCohort]
  have hl : (bl ((⟨#[99, 111, 104, 111, 114, 116, 61]⟩ : ByteArray) ++ x)).length = 23 := by
    rw [bl_length, ByteArray.size_append, h]; rfl
  constructor
  · apply bl_inj
    rw [bl_extract, e, List.drop_zero, List.take_append_of_le_length (by omega), List.take_of_length_le (by omega)]
  · rw [← bl_length, e, List.length_append, hl]; rfl

theorem cellN1 (w : World) (cs : Array Value) (T : TypeId) (j : Nat) : (w.alloc (.cells cs T)).cell? ⟨w.heap.size, j, none⟩ = cs[j]? := (keptN (Below.refl _ _) j).1
set_option maxHeartbeats 6000000 in
theorem cookieFound_core (draw serial : Int) (before after : ByteArray) (w : World) (hE : Env w) (h1 : In64 draw) (h2 : In64 serial) (hs1 : before.size ≤ maxLen) (hs2 : after.size ≤ maxLen) :
    Calls Tryd.prog 6 #[.int .i64 draw, .int .i64 serial, .string before, .string after] w fun e w' => e = .returned (.bool true) ∧ Below w.heap.size w w' := by
  go_enter Tryd.func6, Tryd.ntmps6
  go_wp2_with fail
  refine (refNewID_ex draw serial _ h1 h2).mono ?_
  rintro e w1 ⟨⟨x, rfl, hx, hxa⟩, hb1⟩
  obtain ⟨hcut, hsz⟩ := issueT_cut x hx
  go_wp2_with fail
  refine (issue_calls nameCohort x _ (by decide) (by omega)).mono ?_
  rintro e w2 ⟨rfl, hb2⟩
  have HB2 := Below.self_trans hb1 hb2
  have hid := Lib.hid (show idB x = true by unfold idB; rw [hxa, hx]; rfl)
  have HXA := Lib.hid hxa
  have hxm : x.size ≤ 16 := by omega
  have ht1 : ¬ ((issueT nameCohort x).size : Int) < 24 := by omega
  have ht2 : (23 : Int) ≤ ((issueT nameCohort x).size : Int) := by omega
  have ht3 : 23 ≤ (issueT nameCohort x).size := by omega
  clear hsz hxa hx hb1 hb2
  generalize issueT nameCohort x = t at *
  have HC := Lib.hid hcut
  go_wp2_with fail
  have c1 : (w2.alloc (.cells #[.string issueN, .string t] 27)).cell? ⟨w2.heap.size, 1, none⟩ = some (.string t) := cellN1 w2 _ _ 1
  have HB3 := HB2.alloc HB2.size (.cells #[.string issueN, .string t] 27)
  have hE3 := hE.below HB3
  generalize (w2.alloc (.cells #[.string issueN, .string t] 27)) = w3 at *
  clear HB2
  go_region_with (first
    | (go_at_call 20; (with_reducible refine (safe_calls before _ hs1).mono ?_); rintro e w4 ⟨⟨v1, l1, rfl, hr1, hn1, hl1⟩, hb4⟩; have hb4' : Below w3.heap.size w3 w4 := ⟨hb4.os, hb4.tape, hb4.output, hb4.size, hb4.block⟩; have c4 := cell_below hb4' c1; obtain ⟨a1, cp1, rfl, -, -, -, hc1⟩ := hr1; have hz1 : (bs l1).size ≤ 30 := (by rw [bs_size]; exact hl1); have p1 : ¬ 9223372036854775807 < 2 + (bs l1).size := (by omega); have p2 : ¬ 9223372036854775807 < 2 + (bs l1).size + 2 := (by omega); have p3 : ¬ 9223372036854775807 < 2 + (bs l1).size + 2 + (7 + x.size) := (by omega); have p4 : ¬ 9223372036854775807 < 2 + (bs l1).size + 2 + (7 + x.size) + 4 := (by omega); have q1 : (convert 22 9 (.slice a1 l1.length cp1)).run Tryd.prog w4 = .ok (.string (bs l1)) w4 := conv_bytes Tryd.underlying22 Tryd.underlying5 Tryd.underlying9 rfl hc1)
    | (go_at_call 20; (with_reducible refine (safe_calls after _ hs2).mono ?_); rintro e w5 ⟨⟨v2, l2, rfl, hr2, hn2, hl2⟩, hb5⟩; have hb5' : Below w4.heap.size w4 w5 := ⟨hb5.os, hb5.tape, hb5.output, hb5.size, hb5.block⟩; have c5 := cell_below hb5' c4; obtain ⟨a2, cp2, rfl, -, -, -, hc2⟩ := hr2; have hz2 : (bs l2).size ≤ 30 := (by rw [bs_size]; exact hl2); have p5 : ¬ 9223372036854775807 < 2 + (bs l1).size + 2 + (7 + x.size) + 4 + (bs l2).size := (by omega); have q2 : (convert 22 9 (.slice a2 l2.length cp2)).run Tryd.prog w5 = .ok (.string (bs l2)) w5 := conv_bytes Tryd.underlying22 Tryd.underlying5 Tryd.underlying9 rfl hc2; have q3 : (convert 22 9 (.slice a1 l1.length cp1)).run Tryd.prog w5 = .ok (.string (bs l1)) w5 := conv_bytes Tryd.underlying22 Tryd.underlying5 Tryd.underlying9 rfl (hc1.below hb5')))
  all_goals
    have HF := Lib.hid (find_found x l1 l2 HXA.out hn1)
    have HV := Lib.hid (vals_one ((⟨#[120, 61]⟩ : ByteArray) ++ bs l1 ++ ⟨#[59, 32]⟩ ++ ((⟨#[99, 111, 104, 111, 114, 116, 61]⟩ : ByteArray) ++ x) ++ ⟨#[59, 32, 121, 61]⟩ ++ bs l2))
    have HS := Lib.hid (show fsize [⟨⟨#[67, 111, 111, 107, 105, 101]⟩, (⟨#[120, 61]⟩ : ByteArray) ++ bs l1 ++ ⟨#[59, 32]⟩ ++ ((⟨#[99, 111, 104, 111, 114, 116, 61]⟩ : ByteArray) ++ x) ++ ⟨#[59, 32, 121, 61]⟩ ++ bs l2⟩] ≤ 2000000 by unfold fsize; simp only [List.map_cons, List.map_nil, List.sum_cons, List.sum_nil, ByteArray.size_append]; have c2 : (⟨#[120, 61]⟩ : ByteArray).size = 2 := rfl; have c4 : (⟨#[59, 32, 121, 61]⟩ : ByteArray).size = 4 := rfl; have c6 : (⟨#[67, 111, 111, 107, 105, 101]⟩ : ByteArray).size = 6 := rfl; have d6 : (⟨#[99, 111, 104, 111, 114, 116, 61]⟩ : ByteArray).size = 7 := rfl; have e2 : (⟨#[59, 32]⟩ : ByteArray).size = 2 := rfl; omega)
    have HB5 := Below.self_trans (Below.self_trans HB3 hb4') hb5'
    have hE5 := hE3.below (Below.self_trans hb4' hb5')
    clear p1 p2 p3 p4 p5 q1 q2 q3 c1 c4 c5 hc1 hc2 hn1 hn2 hl1 hl2 hb4 hb4' hb5 hb5' HB3 hE3 hcut
    go_wp2_with fail
    generalize hV : (⟨#[120, 61]⟩ : ByteArray) ++ bs l1 ++ ⟨#[59, 32]⟩ ++ ((⟨#[99, 111, 104, 111, 114, 116, 61]⟩ : ByteArray) ++ x) ++ ⟨#[59, 32, 121, 61]⟩ ++ bs l2 = V
    have hfv : findP (pairsS (valuesS [⟨⟨#[67, 111, 111, 107, 105, 101]⟩, V⟩] cookieS)) ⟨#[99, 111, 104, 111, 114, 116]⟩ = some ⟨nameCohort, x⟩ := by
      rw [← hV, HV.out]; exact HF.out
    have hsv : fsize [⟨⟨#[67, 111, 111, 107, 105, 101]⟩, V⟩] ≤ 2000000 := by rw [← hV]; exact HS.out
    have HFV := Lib.hid hfv
    clear hV HF HV HS hfv
    refine (find_calls _ [⟨⟨#[67, 111, 111, 107, 105, 101]⟩, V⟩] _ _ (hE5.below ((Below.refl _ _).alloc (Nat.le_refl _) _)) (rdf_new' w5 [⟨⟨#[67, 111, 111, 107, 105, 101]⟩, V⟩] _ _ _ rfl rfl rfl (by simp)) hsv).mono ?_
    rintro e w6 ⟨rfl, hb6⟩
    rw [HFV.out]
    unfold findV
    simp only
    have HB6 := Below.self_trans HB5 (kept_below hb6)
    clear hb6 HB5
    go_wp2_with fail
    refine (cid_calls x _ (Nat.le_trans hxm (by simp [maxLen]))).mono ?_
    rintro e w7 ⟨rfl, hb7⟩
    rw [hid.out]
    have HB7 := Below.self_trans HB6 hb7
    clear hb7 HB6
    go_wp2_with fail
    refine (awake14_calls _ (hE.below HB7)).mono ?_
    rintro e w8 ⟨rfl, hb8⟩
    have HB8 := Below.self_trans HB7 hb8
    go_wp2
    go_ret
    exact ⟨rfl, HB8⟩
end Go.Proofs.YtffllobpaemlgaaDoor
