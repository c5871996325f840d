/- Request lines: the reference's ParseRequestLine. -/
import Derived.Test.YtglljdhhgmgbgaaGreatDoorLineR
import Derived.StillTailTactics
namespace Go.Proofs.YtglljdhhgmgbgaaGreatDoor
open Go.RowKit Go.Own
set_option linter.unusedVariables false
set_option maxHeartbeats 2000000

theorem rminor_ok {s : ByteArray} (h : 0 ≤ rminor s) : minorB s = (rminor s, 0) := by
  unfold rminor at h ⊢
  cases h0 : seq s http10 with
  | true => rw [minorB_10 h0]; rfl
  | false =>
    cases h1 : seq s http11 with
    | true => rw [minorB_11 h0 h1]; rfl
    | false => rw [h0, h1] at h; simp at h
theorem rminor_no {s : ByteArray} (h : ¬ 0 ≤ rminor s) : minorB s = if isVersion (bl s) then (0, 6) else (0, 2) := by
  unfold rminor at h
  cases h0 : seq s http10 with
  | true => rw [h0] at h; simp at h
  | false =>
    cases h1 : seq s http11 with
    | true => rw [h0, h1] at h; simp at h
    | false =>
      cases hv : isVersion (bl s) with
      | true => rw [minorB_un h0 h1 hv]; rfl
      | false => rw [minorB_no h0 h1 hv]; rfl
theorem rminor_bd (s : ByteArray) : -1 ≤ rminor s ∧ rminor s ≤ 1 := by
  unfold rminor
  split
  · omega
  · split <;> omega

theorem refParseReq_calls (s : ByteArray) (w : World) (hs : s.size < 4294967281) :
    Calls Tryz.prog 45 #[.string s] w fun e w' => e = .returned (.tuple #[reqV (parseReq s).1, .int .i64 (parseReq s).2]) ∧ Below w.heap.size w w' := by
  have HC := Lib.hid (fun w => refSplit_calls 32 s w (by omega))
  have HZ := Lib.hid (show ∀ p ∈ splitS 32 s, p.size ≤ maxLen from fun p hp => Nat.le_trans (splitS_size 32 s p hp) (by simp [maxLen]; omega))
  obtain ⟨l, hl⟩ : ∃ l, splitS 32 s = l := ⟨_, rfl⟩
  have HL := Lib.hid hl
  rw [hl] at HC HZ
  clear hl
  by_cases h3 : l.length = 3
  · obtain ⟨m, t, v, rfl⟩ := list3 h3
    have hzm := HZ.out m (by simp)
    have hzt := HZ.out t (by simp)
    have hzv := HZ.out v (by simp)
    clear HZ h3
    have HTm := Lib.hid (fun w => refToken_calls m w hzm)
    have HTt := Lib.hid (fun w => refTarget_calls t w hzt)
    have HTv := Lib.hid (fun w => rminor_calls v w)
    have HB1 := Lib.hid (fun h => parseReq_bad HL.out h)
    have HB2 := Lib.hid (fun h h2 => parseReq_ver HL.out h h2)
    have HB3 := Lib.hid (fun h h2 => parseReq_ok HL.out h h2)
    have HV1 := Lib.hid (fun h => rminor_ok (s := v) h)
    have HV2 := Lib.hid (fun h => rminor_no (s := v) h)
    clear hzm hzt HL
    generalize token (bl m) = bm at *
    generalize targetB t = bt at *
    have HKB := Lib.hid (rminor_bd v)
    generalize rminor v = k at *
    cases bm with
    | false =>
      have HR := Lib.hid (HB1.out rfl)
      clear HB1 HB2 HB3 HV1 HV2 HTt HTv hzv
      go_enter Tryz.func45, Tryz.ntmps45
      go_wp2_with fail
      refine (HC.out _).mono ?_
      rintro e w1 ⟨⟨v1, rfl, ho⟩, hb1⟩
      obtain ⟨g, cap, rfl, hg1, hg2, hc1, hc2, d0, d1, d2⟩ := own3 ho
      have HA := Lib.hid (row_new hb1)
      have HB := kept_below hb1
      clear ho hb1
      go_wp2_with fail
      refine (HTm.out _).mono ?_
      rintro e w2 ⟨rfl, rfl⟩
      obtain ⟨⟨c0, c1, c2, c3, c4, c5⟩, ⟨f0, f1, f2, f3, f4, f5⟩, hz⟩ := row6 HA.out
      go_wp2
      exact fin6 (fun x => .tuple #[x, .int .i64 2]) HA.out HB (Nat.le_refl _) (fun w2 c0 c1 c2 c3 c4 c5 => by simp [results, Tryz.results45, go_sem, c0, c1, c2, c3, c4, c5]) rfl (fun w2 hb => ⟨by rw [HR.out]; rfl, hb⟩)
    | true =>
      cases bt with
      | false =>
        have HR := Lib.hid (HB1.out rfl)
        clear HB1 HB2 HB3 HV1 HV2 HTv hzv
        go_enter Tryz.func45, Tryz.ntmps45
        go_wp2_with fail
        refine (HC.out _).mono ?_
        rintro e w1 ⟨⟨v1, rfl, ho⟩, hb1⟩
        obtain ⟨g, cap, rfl, hg1, hg2, hc1, hc2, d0, d1, d2⟩ := own3 ho
        have HA := Lib.hid (row_new hb1)
        have HB := kept_below hb1
        clear ho hb1
        go_wp2_with fail
        refine (HTm.out _).mono ?_
        rintro e w2 ⟨rfl, rfl⟩
        go_wp2_with fail
        refine (HTt.out _).mono ?_
        rintro e w2 ⟨rfl, rfl⟩
        obtain ⟨⟨c0, c1, c2, c3, c4, c5⟩, ⟨f0, f1, f2, f3, f4, f5⟩, hz⟩ := row6 HA.out
        go_wp2
        exact fin6 (fun x => .tuple #[x, .int .i64 2]) HA.out HB (Nat.le_refl _) (fun w2 c0 c1 c2 c3 c4 c5 => by simp [results, Tryz.results45, go_sem, c0, c1, c2, c3, c4, c5]) rfl (fun w2 hb => ⟨by rw [HR.out]; rfl, hb⟩)
      | true =>
        by_cases hk : 0 ≤ k
        · have hm := HV1.out hk
          have HR := Lib.hid (HB3.out rfl (by rw [hm]))
          rw [hm] at HR
          simp only at HR
          clear HB1 HB2 HB3 HV1 HV2 hm hzv
          go_enter Tryz.func45, Tryz.ntmps45
          go_wp2_with fail
          refine (HC.out _).mono ?_
          rintro e w1 ⟨⟨v1, rfl, ho⟩, hb1⟩
          obtain ⟨g, cap, rfl, hg1, hg2, hc1, hc2, d0, d1, d2⟩ := own3 ho
          have HA := Lib.hid (row_new hb1)
          have HB := kept_below hb1
          clear ho hb1
          go_wp2_with fail
          refine (HTm.out _).mono ?_
          rintro e w2 ⟨rfl, rfl⟩
          go_wp2_with fail
          refine (HTt.out _).mono ?_
          rintro e w2 ⟨rfl, rfl⟩
          go_wp2_with fail
          refine (HTv.out _).mono ?_
          rintro e w2 ⟨rfl, rfl⟩
          obtain ⟨⟨c0, c1, c2, c3, c4, c5⟩, ⟨f0, f1, f2, f3, f4, f5⟩, hz⟩ := row6 HA.out
          go_wp2_with fail
          go_region_with ((go_at_call 77; refine (HTv.out _).mono ?_; rintro e w5 ⟨rfl, rfl⟩))
          all_goals
            have hS := set6 (.string m) (.string t) (.int .i64 k) (.slice none 0 0) (.bool false) (.slice none 0 0) HA.out HB (Nat.le_refl _)
            generalize ((((((w1.setCell ⟨w.heap.size, 0, none⟩ (.string m)).setCell ⟨w.heap.size, 1, none⟩ (.string t)).setCell ⟨w.heap.size, 2, none⟩ (.int .i64 k)).setCell ⟨w.heap.size, 3, none⟩ (.slice none 0 0)).setCell ⟨w.heap.size, 4, none⟩ (.bool false)).setCell ⟨w.heap.size, 5, none⟩ (.slice none 0 0)) = w4 at hS ⊢
            obtain ⟨hh, hb⟩ := hS
            clear c0 c1 c2 c3 c4 c5 f0 f1 f2 f3 f4 f5 hz
            obtain ⟨⟨c0, c1, c2, c3, c4, c5⟩, -, -⟩ := row6 hh
            go_wp2
            exact bodyPost_ret (v := .tuple #[.agg #[.string m, .string t, .int .i64 k, .slice none 0 0, .bool false, .slice none 0 0], .int .i64 0]) (by simp [results, Tryz.results45, go_sem, c0, c1, c2, c3, c4, c5]) rfl ⟨by rw [HR.out]; rfl, hb.drew⟩
        · have hm := HV2.out hk
          clear hzv
          by_cases h8 : v.size = 8
          · have b8 : ((v.size : Int) == 8) = true := by simp; omega
            have h5 : 5 < v.size := by omega
            have h6 : 6 < v.size := by omega
            have h7 : 7 < v.size := by omega
            obtain ⟨x5, e5, f5⟩ := byte_split v 5 h5
            obtain ⟨x6, e6, f6⟩ := byte_split v 6 h6
            obtain ⟨x7, e7, f7⟩ := byte_split v 7 h7
            have i5 : (5 : Int) ≤ (v.size : Int) := by omega
            have j5 : (5 : Int) < (v.size : Int) := by omega
            have j6 : (6 : Int) < (v.size : Int) := by omega
            have j7 : (7 : Int) < (v.size : Int) := by omega
            have HV := Lib.hid (show isVersion (bl v) = (((v.extract 0 5).toList == [72, 84, 84, 80, 47]) && digitB x5 && (x6 == 46) && digitB x7) by
              unfold isVersion
              rw [toList_bl, bl_extract, bl_length, h8]
              rw [List.getD_eq_getElem?_getD, List.getD_eq_getElem?_getD, List.getD_eq_getElem?_getD, List.getElem?_eq_getElem (by rw [bl_length]; omega), List.getElem?_eq_getElem (by rw [bl_length]; omega), List.getElem?_eq_getElem (by rw [bl_length]; omega), e5, e6, e7]
              rfl)
            have p6 : ((x6.toNat : Int) == 46) = (x6 == 46) := by rw [Bool.eq_iff_iff]; simp [← UInt8.toNat_inj]; omega
            have C5 := Lib.hid (fun w => refDigit_calls x5 w)
            have C7 := Lib.hid (fun w => refDigit_calls x7 w)
            have HY := Lib.hid (fun h : isVersion (bl v) = true => (show parseReq s = (none, 6) by rw [HB2.out rfl (by rw [hm, h]; simp), hm, h]; rfl))
            have HN := Lib.hid (fun h : isVersion (bl v) = false => (show parseReq s = (none, 2) by rw [HB2.out rfl (by rw [hm, h]; simp), hm, h]; rfl))
            clear HB1 HB2 HB3 HV1 HV2 hm h8 e5 e6 e7
            generalize hp : ((v.extract 0 5).toList == [72, 84, 84, 80, 47]) = p at *
            generalize hd5 : digitB x5 = d5 at *
            generalize hd7 : digitB x7 = d7 at *
            generalize hd6 : (x6 == 46) = d6 at *
            clear hd5 hd7 hd6
            cases p with
            | false =>
              have HR := Lib.hid (HN.out (by rw [HV.out]; rfl))
              clear HV HY HN 
              go_enter Tryz.func45, Tryz.ntmps45
              go_wp2_with fail
              refine (HC.out _).mono ?_
              rintro e w1 ⟨⟨v1, rfl, ho⟩, hb1⟩
              obtain ⟨g, cap, rfl, hg1, hg2, hc1, hc2, d0, d1, d2⟩ := own3 ho
              have HA := Lib.hid (row_new hb1)
              have HB := kept_below hb1
              clear ho hb1
              go_wp2_with fail
              refine (HTm.out _).mono ?_
              rintro e w2 ⟨rfl, rfl⟩
              go_wp2_with fail
              refine (HTt.out _).mono ?_
              rintro e w2 ⟨rfl, rfl⟩
              go_wp2_with fail
              refine (HTv.out _).mono ?_
              rintro e w2 ⟨rfl, rfl⟩
              obtain ⟨⟨c0, c1, c2, c3, c4, c5⟩, ⟨f0, f1, f2, f3, f4, f5⟩, hz⟩ := row6 HA.out
              go_wp2
              exact fin6 (fun x => .tuple #[x, .int .i64 2]) HA.out HB (Nat.le_refl _) (fun w2 c0 c1 c2 c3 c4 c5 => by simp [results, Tryz.results45, go_sem, c0, c1, c2, c3, c4, c5]) rfl (fun w2 hb => ⟨by rw [HR.out]; rfl, hb⟩)
            | true =>
              cases d5 with
              | false =>
                have HR := Lib.hid (HN.out (by rw [HV.out]; rfl))
                clear HV HY HN 
                go_enter Tryz.func45, Tryz.ntmps45
                go_wp2_with fail
                refine (HC.out _).mono ?_
                rintro e w1 ⟨⟨v1, rfl, ho⟩, hb1⟩
                obtain ⟨g, cap, rfl, hg1, hg2, hc1, hc2, d0, d1, d2⟩ := own3 ho
                have HA := Lib.hid (row_new hb1)
                have HB := kept_below hb1
                clear ho hb1
                go_wp2_with fail
                refine (HTm.out _).mono ?_
                rintro e w2 ⟨rfl, rfl⟩
                go_wp2_with fail
                refine (HTt.out _).mono ?_
                rintro e w2 ⟨rfl, rfl⟩
                go_wp2_with fail
                refine (HTv.out _).mono ?_
                rintro e w2 ⟨rfl, rfl⟩
                go_wp2_with fail
                refine (C5.out _).mono ?_
                rintro e w2 ⟨rfl, rfl⟩
                obtain ⟨⟨c0, c1, c2, c3, c4, c5⟩, ⟨f0, f1, f2, f3, f4, f5⟩, hz⟩ := row6 HA.out
                go_wp2
                exact fin6 (fun x => .tuple #[x, .int .i64 2]) HA.out HB (Nat.le_refl _) (fun w2 c0 c1 c2 c3 c4 c5 => by simp [results, Tryz.results45, go_sem, c0, c1, c2, c3, c4, c5]) rfl (fun w2 hb => ⟨by rw [HR.out]; rfl, hb⟩)
              | true =>
                cases d6 with
                | false =>
                  have HR := Lib.hid (HN.out (by rw [HV.out]; rfl))
                  clear HV HY HN 
                  go_enter Tryz.func45, Tryz.ntmps45
                  go_wp2_with fail
                  refine (HC.out _).mono ?_
                  rintro e w1 ⟨⟨v1, rfl, ho⟩, hb1⟩
                  obtain ⟨g, cap, rfl, hg1, hg2, hc1, hc2, d0, d1, d2⟩ := own3 ho
                  have HA := Lib.hid (row_new hb1)
                  have HB := kept_below hb1
                  clear ho hb1
                  go_wp2_with fail
                  refine (HTm.out _).mono ?_
                  rintro e w2 ⟨rfl, rfl⟩
                  go_wp2_with fail
                  refine (HTt.out _).mono ?_
                  rintro e w2 ⟨rfl, rfl⟩
                  go_wp2_with fail
                  refine (HTv.out _).mono ?_
                  rintro e w2 ⟨rfl, rfl⟩
                  go_wp2_with fail
                  refine (C5.out _).mono ?_
                  rintro e w2 ⟨rfl, rfl⟩
                  obtain ⟨⟨c0, c1, c2, c3, c4, c5⟩, ⟨f0, f1, f2, f3, f4, f5⟩, hz⟩ := row6 HA.out
                  go_wp2
                  exact fin6 (fun x => .tuple #[x, .int .i64 2]) HA.out HB (Nat.le_refl _) (fun w2 c0 c1 c2 c3 c4 c5 => by simp [results, Tryz.results45, go_sem, c0, c1, c2, c3, c4, c5]) rfl (fun w2 hb => ⟨by rw [HR.out]; rfl, hb⟩)
                | true =>
                  cases d7 with
                  | false =>
                    have HR := Lib.hid (HN.out (by rw [HV.out]; rfl))
                    clear HV HY HN 
                    go_enter Tryz.func45, Tryz.ntmps45
                    go_wp2_with fail
                    refine (HC.out _).mono ?_
                    rintro e w1 ⟨⟨v1, rfl, ho⟩, hb1⟩
                    obtain ⟨g, cap, rfl, hg1, hg2, hc1, hc2, d0, d1, d2⟩ := own3 ho
                    have HA := Lib.hid (row_new hb1)
                    have HB := kept_below hb1
                    clear ho hb1
                    go_wp2_with fail
                    refine (HTm.out _).mono ?_
                    rintro e w2 ⟨rfl, rfl⟩
                    go_wp2_with fail
                    refine (HTt.out _).mono ?_
                    rintro e w2 ⟨rfl, rfl⟩
                    go_wp2_with fail
                    refine (HTv.out _).mono ?_
                    rintro e w2 ⟨rfl, rfl⟩
                    go_wp2_with fail
                    refine (C5.out _).mono ?_
                    rintro e w2 ⟨rfl, rfl⟩
                    go_wp2_with fail
                    refine (C7.out _).mono ?_
                    rintro e w2 ⟨rfl, rfl⟩
                    obtain ⟨⟨c0, c1, c2, c3, c4, c5⟩, ⟨f0, f1, f2, f3, f4, f5⟩, hz⟩ := row6 HA.out
                    go_wp2
                    exact fin6 (fun x => .tuple #[x, .int .i64 2]) HA.out HB (Nat.le_refl _) (fun w2 c0 c1 c2 c3 c4 c5 => by simp [results, Tryz.results45, go_sem, c0, c1, c2, c3, c4, c5]) rfl (fun w2 hb => ⟨by rw [HR.out]; rfl, hb⟩)
                  | true =>
                    have HR := Lib.hid (HY.out (by rw [HV.out]; rfl))
                    clear HV HY HN 
                    go_enter Tryz.func45, Tryz.ntmps45
                    go_wp2_with fail
                    refine (HC.out _).mono ?_
                    rintro e w1 ⟨⟨v1, rfl, ho⟩, hb1⟩
                    obtain ⟨g, cap, rfl, hg1, hg2, hc1, hc2, d0, d1, d2⟩ := own3 ho
                    have HA := Lib.hid (row_new hb1)
                    have HB := kept_below hb1
                    clear ho hb1
                    go_wp2_with fail
                    refine (HTm.out _).mono ?_
                    rintro e w2 ⟨rfl, rfl⟩
                    go_wp2_with fail
                    refine (HTt.out _).mono ?_
                    rintro e w2 ⟨rfl, rfl⟩
                    go_wp2_with fail
                    refine (HTv.out _).mono ?_
                    rintro e w2 ⟨rfl, rfl⟩
                    go_wp2_with fail
                    refine (C5.out _).mono ?_
                    rintro e w2 ⟨rfl, rfl⟩
                    go_wp2_with fail
                    refine (C7.out _).mono ?_
                    rintro e w2 ⟨rfl, rfl⟩
                    obtain ⟨⟨c0, c1, c2, c3, c4, c5⟩, ⟨f0, f1, f2, f3, f4, f5⟩, hz⟩ := row6 HA.out
                    go_wp2
                    exact fin6 (fun x => .tuple #[x, .int .i64 6]) HA.out HB (Nat.le_refl _) (fun w2 c0 c1 c2 c3 c4 c5 => by simp [results, Tryz.results45, go_sem, c0, c1, c2, c3, c4, c5]) rfl (fun w2 hb => ⟨by rw [HR.out]; rfl, hb⟩)
          · have b8 : ((v.size : Int) == 8) = false := by simp; omega
            have hv : isVersion (bl v) = false := by unfold isVersion; rw [bl_length]; simp [h8]
            rw [hv] at hm
            have HR := Lib.hid (show parseReq s = (none, 2) by rw [HB2.out rfl (by rw [hm]; simp), hm]; rfl)
            clear HB1 HB2 HB3 HV1 HV2 hm hv h8
            go_enter Tryz.func45, Tryz.ntmps45
            go_wp2_with fail
            refine (HC.out _).mono ?_
            rintro e w1 ⟨⟨v1, rfl, ho⟩, hb1⟩
            obtain ⟨g, cap, rfl, hg1, hg2, hc1, hc2, d0, d1, d2⟩ := own3 ho
            have HA := Lib.hid (row_new hb1)
            have HB := kept_below hb1
            clear ho hb1
            go_wp2_with fail
            refine (HTm.out _).mono ?_
            rintro e w2 ⟨rfl, rfl⟩
            go_wp2_with fail
            refine (HTt.out _).mono ?_
            rintro e w2 ⟨rfl, rfl⟩
            go_wp2_with fail
            refine (HTv.out _).mono ?_
            rintro e w2 ⟨rfl, rfl⟩
            obtain ⟨⟨c0, c1, c2, c3, c4, c5⟩, ⟨f0, f1, f2, f3, f4, f5⟩, hz⟩ := row6 HA.out
            go_wp2
            exact fin6 (fun x => .tuple #[x, .int .i64 2]) HA.out HB (Nat.le_refl _) (fun w2 c0 c1 c2 c3 c4 c5 => by simp [results, Tryz.results45, go_sem, c0, c1, c2, c3, c4, c5]) rfl (fun w2 hb => ⟨by rw [HR.out]; rfl, hb⟩)
  · have HR := Lib.hid (parseReq_len HL.out h3)
    have h4 : ((l.length : Int) == 3) = false := by rw [beq_eq_false_iff_ne]; omega
    have h5 : ((l.length : Int) != 3) = true := by rw [bne_iff_ne]; omega
    clear HL HZ h3
    go_enter Tryz.func45, Tryz.ntmps45
    go_wp2_with fail
    refine (HC.out _).mono ?_
    rintro e w1 ⟨⟨v1, rfl, ho⟩, hb1⟩
    obtain ⟨a, cap, rfl, hc1, hc2, hc3⟩ := owned_slice ho
    have HA := Lib.hid (row_new hb1)
    have HB := kept_below hb1
    clear ho hb1
    obtain ⟨⟨c0, c1, c2, c3, c4, c5⟩, ⟨f0, f1, f2, f3, f4, f5⟩, hz⟩ := row6 HA.out
    go_wp2
    exact fin6 (fun x => .tuple #[x, .int .i64 2]) HA.out HB (Nat.le_refl _) (fun w2 c0 c1 c2 c3 c4 c5 => by simp [results, Tryz.results45, go_sem, c0, c1, c2, c3, c4, c5]) rfl (fun w2 hb => ⟨by rw [HR.out]; rfl, hb⟩)
end Go.Proofs.YtglljdhhgmgbgaaGreatDoor
