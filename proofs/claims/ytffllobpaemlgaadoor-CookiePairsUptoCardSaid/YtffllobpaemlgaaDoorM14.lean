/- canarylaw14.made; CookiePairs' core. -/
import Derived.Test.YtffllobpaemlgaaDoorL14
import Derived.Test.YtffllobpaemlgaaDoorSrcX
namespace Go.Proofs.YtffllobpaemlgaaDoor
open Go.RowKit Go.Own
set_option linter.unusedVariables false
set_option maxHeartbeats 2000000

def ckA : List ByteArray := [⟨#[97]⟩, ⟨#[98]⟩, ⟨#[99, 111, 104, 111, 114, 116]⟩, ⟨#[]⟩, ⟨#[97, 32, 98]⟩]
def ckB : List ByteArray := [⟨#[61]⟩, ⟨#[61]⟩, ⟨#[]⟩, ⟨#[32, 61, 32]⟩]
def ckC : List ByteArray := [⟨#[49]⟩, ⟨#[48, 49, 50, 51, 52, 53, 54, 55, 56, 57, 97, 98, 99, 100, 101, 102]⟩, ⟨#[120, 61, 121]⟩, ⟨#[]⟩]
def ckD : List ByteArray := [⟨#[59]⟩, ⟨#[59, 32]⟩, ⟨#[32, 59]⟩]
def ckN : List ByteArray := [⟨#[67, 111, 111, 107, 105, 101]⟩, ⟨#[99, 111, 111, 107, 105, 101]⟩]
theorem fsize_snoc (l : List Fld) (f : Fld) : fsize (l ++ [f]) = fsize l + (f.name.size + f.val.size + 2) := by simp [fsize]

theorem made14_calls (vl : Value) (l : List Int) (w : World) (Hl : RdI w vl l) :
    Calls Tryd.prog 14 #[vl] w fun e w' => (∃ v x, e = .returned v ∧ RdF w' v x ∧ x.length ≤ 5 ∧ fsize x ≤ 400) ∧ Below w.heap.size w w' := by
  obtain ⟨⟨a, cap, rfl, hlc, hcm, hcn, hc⟩, hin⟩ := Hl
  go_enter Tryd.func14, Tryd.ntmps14
  go_wp2_with fail
  refine (sfields_calls w.heap.size l 3 _ (src_new w a l cap hc hlc hcm hcn hin) (by omega) (by omega)).mono ?_
  rintro e w1 ⟨⟨v, x, rfl, hx3, hxm, hown⟩, hg1, hs1⟩
  have hb1 := below_new hg1
  have hfs := fsize_made x hxm
  have hown1 : OwnF (w.heap.size + 1) w1 v x := by simpa using hown
  clear hg1 hown hc hlc hcm hcn hin hxm
  go_wp2_with fail
  refine (next_calls w.heap.size l 3 _ hs1 (by omega) (by omega)).mono ?_
  rintro e w2 ⟨⟨r, rfl, hr1, hr2⟩, hg2, hs2⟩
  have hb2 := below_src hb1 hg2 (Nat.le_refl _)
  have hown2 : OwnF (w.heap.size + 1) w2 v x := own_src hown1 hg2 (by omega)
  clear hg2 hb1 hs1 hown1
  obtain ⟨a0, c0, rfl, -, -, -⟩ := owned_slice hown2
  go_wp2
  go_loopw [4, 5] (fun v i wr => ∃ (x : List Fld) (q : Int), i = .int .i64 q ∧ 0 ≤ q ∧ q ≤ 2 ∧ (x.length : Int) + q ≤ 5 ∧ (fsize x : Int) + 100 * q ≤ 400 ∧ OwnF (w.heap.size + 1) wr v x ∧ Below w.heap.size w wr ∧ Src wr w.heap.size l) (fun _ i _ => (intOf i).toNat)
  case atStart => exact ⟨x, r, rfl, hr1, by omega, by omega, by omega, hown2, hb2, hs2⟩
  case round =>
    clear hown2 hb2 hs2 hfs hx3
    obtain ⟨x, q, rfl, hq, hq2, hxq, hfq, hown, hb, hs⟩ := hrel
    obtain ⟨a0, c0, rfl, -, -, -⟩ := owned_slice hown
    have hsz := hb.size
    by_cases hq0 : 0 < q
    · go_wp2_with fail
      refine (next_calls w.heap.size l 4 _ hs (by omega) (by omega)).mono ?_
      rintro e w3 ⟨⟨r3, rfl, hr31, hr32⟩, hg3, hs3⟩
      have hb3 := below_src hb hg3 (Nat.le_refl _)
      have hown3 : OwnF (w.heap.size + 1) w3 _ x := own_src hown hg3 (by omega)
      clear hg3 hb hs hown hsz
      go_wp2
      go_loopw [6, 7] (fun v i wr => ∃ (t : ByteArray) (k : Int), v = .string t ∧ i = .int .i64 k ∧ 0 ≤ k ∧ k ≤ 3 ∧ (t.size : Int) + 27 * k ≤ 81 ∧ OwnF (w.heap.size + 1) wr (.slice a0 x.length c0) x ∧ Below w.heap.size w wr ∧ Src wr w.heap.size l) (fun _ i _ => (intOf i).toNat)
      case atStart => exact ⟨⟨#[]⟩, r3, rfl, rfl, hr31, by omega, by have : (⟨#[]⟩ : ByteArray).size = 0 := rfl; omega, hown3, hb3, hs3⟩
      case round =>
        clear hown3 hb3 hs3
        obtain ⟨t, k, rfl, rfl, hk, hk3, htk, hown4, hb4, hs4⟩ := hrel
        by_cases hk0 : 0 < k
        · go_wp2_with fail
          refine (oflit_calls ckA w.heap.size l _ _ _ _ _ hs4 rfl rfl rfl (by decide) (by decide)).mono ?_
          rintro e w5 ⟨⟨s1, hm1, rfl⟩, hg5, hs5⟩
          have hb5 := below_src hb4 hg5 (Nat.le_refl _)
          have hown5 : OwnF (w.heap.size + 1) w5 _ x := own_src hown4 hg5 (by omega)
          have hz1 := of_max (M := 6) hm1 (by decide)
          clear hg5 hb4 hs4 hown4 hm1
          go_wp2_with fail
          refine (oflit_calls ckB w.heap.size l _ _ _ _ _ hs5 rfl rfl rfl (by decide) (by decide)).mono ?_
          rintro e w6 ⟨⟨s2, hm2, rfl⟩, hg6, hs6⟩
          have hb6 := below_src hb5 hg6 (Nat.le_refl _)
          have hown6 : OwnF (w.heap.size + 1) w6 _ x := own_src hown5 hg6 (by omega)
          have hz2 := of_max (M := 3) hm2 (by decide)
          clear hg6 hb5 hs5 hown5 hm2
          go_wp2_with fail
          refine (oflit_calls ckC w.heap.size l _ _ _ _ _ hs6 rfl rfl rfl (by decide) (by decide)).mono ?_
          rintro e w7 ⟨⟨s3, hm3, rfl⟩, hg7, hs7⟩
          have hb7 := below_src hb6 hg7 (Nat.le_refl _)
          have hown7 : OwnF (w.heap.size + 1) w7 _ x := own_src hown6 hg7 (by omega)
          have hz3 := of_max (M := 16) hm3 (by decide)
          clear hg7 hb6 hs6 hown6 hm3
          go_wp2_with fail
          refine (oflit_calls ckD w.heap.size l _ _ _ _ _ hs7 rfl rfl rfl (by decide) (by decide)).mono ?_
          rintro e w8 ⟨⟨s4, hm4, rfl⟩, hg8, hs8⟩
          have hb8 := below_src hb7 hg8 (Nat.le_refl _)
          have hown8 : OwnF (w.heap.size + 1) w8 _ x := own_src hown7 hg8 (by omega)
          have hz4 := of_max (M := 2) hm4 (by decide)
          clear hg8 hb7 hs7 hown7 hm4
          go_wp2
          go_roundw
          case rel => exact ⟨_, k - 1, rfl, by go_num, by omega, by omega, by simp only [ByteArray.size_append]; omega, hown8, hb8, hs8⟩
          case measure => simp [intOf]; omega
        · have hts : t.size ≤ 81 := by omega
          have htm : t.size ≤ maxLen := by simp [maxLen]; omega
          go_wp2_with fail
          refine (oflit_calls ckN w.heap.size l _ _ _ _ _ hs4 rfl rfl rfl (by decide) (by decide)).mono ?_
          rintro e w5 ⟨⟨s1, hm1, rfl⟩, hg5, hs5⟩
          have hb5 := below_src hb4 hg5 (Nat.le_refl _)
          have hown5 : OwnF (w.heap.size + 1) w5 _ x := own_src hown4 hg5 (by omega)
          have hz1 := of_max (M := 6) hm1 (by decide)
          clear hg5 hb4 hs4 hown4 hm1
          go_wp2_with fail
          refine (refTrim_calls t _ htm).mono ?_
          rintro e w6 ⟨rfl, rfl⟩
          have hroom : (x.length + 1) * 32 ≤ 140737488355328 := by omega
          have hroom2 : x.length + 1 ≤ maxLen := by simp [maxLen]; omega
          have hsz5 : w.heap.size + 1 ≤ w5.heap.size := hs5.lt
          have hts2 := trimB_size t
          have HF := Lib.hid (fsize_snoc x ⟨s1, trimB t⟩)
          go_wp2_with (at_builtin; refine wpList_append_oneb rfl (.tmp 42) (.tmp 49) 32 rfl (w.heap.size + 1) hsz5 27 (.agg #[.string .empty, .string .empty]) 2 32 Tryd.underlying32 info_fld rfl (by decide) a0 x.length c0 (fieldsV x) [.string s1, .string (trimB t)] rfl (fld_one ⟨s1, trimB t⟩) rfl hown5 rfl hroom hroom2 ?_; intro a1 c1 w7 hown7 hg7 hw7)
          have hb7 := below_row hb5 hg7 hown5 (by omega)
          have hs7 := src_row hs5 hg7 hown5 (by omega)
          have hown8 : OwnF (w.heap.size + 1) w7 (.slice a1 (x.length + 1) c1) (x ++ [⟨s1, trimB t⟩]) := OwnF.snoc hown7
          clear hown5 hb5 hs5 hg7 hw7 hown7
          go_roundw
          case rel => exact ⟨x ++ [⟨s1, trimB t⟩], q - 1, by go_num, by omega, by omega, by simp; omega, by rw [HF.out]; omega, hown8, hb7, hs7⟩
          case measure => simp [intOf]; omega
    · have hr := hown.rd
      have hx5 : x.length ≤ 5 := by omega
      have hf5 : fsize x ≤ 400 := by omega
      clear hown hs hxq hfq
      go_wp2
      go_ret
      exact ⟨⟨_, rfl, x, hr, hx5, hf5⟩, hb⟩

theorem cookiePairs_core (vl : Value) (l : List Int) (vr : Value) (raw : List Fld) (name : ByteArray) (wild : Bool) (w : World) (hE : Env w) (Hl : RdI w vl l) (Hr : RdF w vr raw) (hM : fsize raw ≤ 1048576) :
    Calls Tryd.prog 4 #[vl, vr, .string name, .bool wild] w fun e w' => e = .returned (.bool true) ∧ Below w.heap.size w w' := by
  go_enter Tryd.func4, Tryd.ntmps4
  go_wp2_with fail
  refine (made14_calls vl l _ Hl).mono ?_
  rintro e w1 ⟨⟨vx, x, rfl, Hx, hx5, hxs⟩, hb1⟩
  obtain ⟨⟨a, cap, rfl, hlc, hcm, -, -⟩, -⟩ := Hl
  unfold maxLen at hcm
  cases wild with
  | true =>
    have Hr1 := Hr.below hb1
    have hXs : fsize raw ≤ 2000000 := by omega
    have hrl := fsize_length raw
    obtain ⟨ar, capr, rfl, hlr, hcr, -, -⟩ := id Hr
    unfold maxLen at hcr
    clear Hx hx5 hxs Hr
    by_cases h30 : 30 < raw.length
    · have h31 : (30 : Int) < (raw.length : Int) := by omega
      go_wp2_with fail
      refine (awake14_calls _ (hE.below hb1)).mono ?_
      rintro e w2 ⟨rfl, hb2⟩
      have HB := Below.self_trans hb1 hb2
      go_wp2
      go_ret
      exact ⟨rfl, HB⟩
    · have h31 : ¬ (30 : Int) < (raw.length : Int) := by omega
      go_wp2_with fail
      refine (pairs_calls _ raw _ (hE.below hb1) Hr1 hXs).mono ?_
      rintro e w2 ⟨⟨v2, rfl, ho2⟩, hb2⟩
      have HB2 := Below.self_trans hb1 hb2
      have HX2 := RdF.below Hr1 hb2
      have r2 := ho2.rd
      clear ho2 hb2
      go_wp2_with fail
      refine (refPairs_calls _ raw _ HX2 hXs).mono ?_
      rintro e w3 ⟨⟨v3, rfl, ho3⟩, hb3⟩
      have HB3 := Below.self_trans HB2 hb3
      have HX3 := HX2.below hb3
      have r23 := r2.below hb3
      have r3 := ho3.rd
      clear ho3 hb3 HX2 HB2 r2 hb1 Hr1
      generalize hps : pairsS (valuesS raw cookieS) = ps at *
      have HPS := Lib.hid hps
      clear hps
      obtain ⟨a2, c2, rfl, hc21, hc22, -, hr2⟩ := r23
      obtain ⟨a3, c3, rfl, hc31, hc32, -, hr3⟩ := r3
      unfold maxLen at hc22 hc32
      go_wp2
      go_loopw [12] (fun i wr => ∃ k : Nat, k ≤ ps.length ∧ i = .int .i64 k ∧ Below w3.heap.size w3 wr) (fun i _ => ps.length - (intOf i).toNat)
      case atStart => exact ⟨0, Nat.zero_le _, rfl, Below.refl _ _⟩
      case round =>
        obtain ⟨k, hk, rfl, hb⟩ := hrel
        by_cases hlt : k < ps.length
        · obtain ⟨b, off, rfl, hcell, hcell'⟩ := (hr2.below hb).fld k hlt
          obtain ⟨b2, off2, rfl, hcell2, hcell2'⟩ := (hr3.below hb).fld k hlt
          have hki : (k : Int) < (ps.length : Int) := by omega
          clear hr2 hr3 hXs
          go_wp2
          go_quiet (fail)
          go_wp2
          go_roundw
          case rel => exact ⟨k + 1, by omega, by go_num, below_drewN hb _⟩
          case measure => simp [intOf]; omega
        · have HB := Below.self_trans HB3 hb
          have HXr := HX3.below hb
          clear hr2 hr3 HX3 HB3 hb
          go_wp2_with fail
          refine (find_calls _ raw name _ (hE.below HB) HXr hXs).mono ?_
          rintro e w4 ⟨rfl, hb4⟩
          rw [HPS.out]
          generalize hq : findP ps name = q
          have HQ := Lib.hid hq
          clear hq
          have HB4 := Below.self_trans HB hb4
          have HX4 := HXr.below hb4
          clear hb4 HB HXr
          cases q
          all_goals
            unfold findV
            simp only
            go_wp2_with fail
            refine (refFind_calls _ raw name _ HX4 hXs).mono ?_
            rintro e w5 ⟨rfl, hb5⟩
            rw [HPS.out, HQ.out]
            unfold findV
            simp only
            have HB5 := Below.self_trans HB4 hb5
            clear hb5 HX4 HB4
            go_wp2_with fail
            refine (awake14_calls _ (hE.below HB5)).mono ?_
            rintro e w6 ⟨rfl, hb6⟩
            have HB6 := Below.self_trans HB5 hb6
            go_wp2
            go_ret
            exact ⟨rfl, HB6⟩
  | false =>
    have hXs : fsize x ≤ 2000000 := by omega
    obtain ⟨ax, capx, rfl, hlx, hcx, -, -⟩ := id Hx
    unfold maxLen at hcx
    have h31 : ¬ (30 : Int) < (x.length : Int) := by omega
    clear Hr hM hxs
    by_cases h3 : 0 < (l.length : Int) % 3
    · go_wp2_with fail
      refine (pairs_calls _ x _ (hE.below hb1) Hx hXs).mono ?_
      rintro e w2 ⟨⟨v2, rfl, ho2⟩, hb2⟩
      have HB2 := Below.self_trans hb1 hb2
      have HX2 := RdF.below Hx hb2
      have r2 := ho2.rd
      clear ho2 hb2
      go_wp2_with fail
      refine (refPairs_calls _ x _ HX2 hXs).mono ?_
      rintro e w3 ⟨⟨v3, rfl, ho3⟩, hb3⟩
      have HB3 := Below.self_trans HB2 hb3
      have HX3 := HX2.below hb3
      have r23 := r2.below hb3
      have r3 := ho3.rd
      clear ho3 hb3 HX2 HB2 r2 hb1 Hx
      generalize hps : pairsS (valuesS x cookieS) = ps at *
      have HPS := Lib.hid hps
      clear hps
      obtain ⟨a2, c2, rfl, hc21, hc22, -, hr2⟩ := r23
      obtain ⟨a3, c3, rfl, hc31, hc32, -, hr3⟩ := r3
      unfold maxLen at hc22 hc32
      go_wp2
      go_loopw [12] (fun i wr => ∃ k : Nat, k ≤ ps.length ∧ i = .int .i64 k ∧ Below w3.heap.size w3 wr) (fun i _ => ps.length - (intOf i).toNat)
      case atStart => exact ⟨0, Nat.zero_le _, rfl, Below.refl _ _⟩
      case round =>
        obtain ⟨k, hk, rfl, hb⟩ := hrel
        by_cases hlt : k < ps.length
        · obtain ⟨b, off, rfl, hcell, hcell'⟩ := (hr2.below hb).fld k hlt
          obtain ⟨b2, off2, rfl, hcell2, hcell2'⟩ := (hr3.below hb).fld k hlt
          have hki : (k : Int) < (ps.length : Int) := by omega
          clear hr2 hr3 hXs
          go_wp2
          go_quiet (fail)
          go_wp2
          go_roundw
          case rel => exact ⟨k + 1, by omega, by go_num, below_drewN hb _⟩
          case measure => simp [intOf]; omega
        · have HB := Below.self_trans HB3 hb
          have HXr := HX3.below hb
          clear hr2 hr3 HX3 HB3 hb
          go_wp2_with fail
          refine (find_calls _ x ⟨#[99, 111, 104, 111, 114, 116]⟩ _ (hE.below HB) HXr hXs).mono ?_
          rintro e w4 ⟨rfl, hb4⟩
          rw [HPS.out]
          generalize hq : findP ps ⟨#[99, 111, 104, 111, 114, 116]⟩ = q
          have HQ := Lib.hid hq
          clear hq
          have HB4 := Below.self_trans HB hb4
          have HX4 := HXr.below hb4
          clear hb4 HB HXr
          cases q
          all_goals
            unfold findV
            simp only
            go_wp2_with fail
            refine (refFind_calls _ x ⟨#[99, 111, 104, 111, 114, 116]⟩ _ HX4 hXs).mono ?_
            rintro e w5 ⟨rfl, hb5⟩
            rw [HPS.out, HQ.out]
            unfold findV
            simp only
            have HB5 := Below.self_trans HB4 hb5
            clear hb5 HX4 HB4
            go_wp2_with fail
            refine (awake14_calls _ (hE.below HB5)).mono ?_
            rintro e w6 ⟨rfl, hb6⟩
            have HB6 := Below.self_trans HB5 hb6
            go_wp2
            go_ret
            exact ⟨rfl, HB6⟩
    · go_wp2_with fail
      refine (pairs_calls _ x _ (hE.below hb1) Hx hXs).mono ?_
      rintro e w2 ⟨⟨v2, rfl, ho2⟩, hb2⟩
      have HB2 := Below.self_trans hb1 hb2
      have HX2 := RdF.below Hx hb2
      have r2 := ho2.rd
      clear ho2 hb2
      go_wp2_with fail
      refine (refPairs_calls _ x _ HX2 hXs).mono ?_
      rintro e w3 ⟨⟨v3, rfl, ho3⟩, hb3⟩
      have HB3 := Below.self_trans HB2 hb3
      have HX3 := HX2.below hb3
      have r23 := r2.below hb3
      have r3 := ho3.rd
      clear ho3 hb3 HX2 HB2 r2 hb1 Hx
      generalize hps : pairsS (valuesS x cookieS) = ps at *
      have HPS := Lib.hid hps
      clear hps
      obtain ⟨a2, c2, rfl, hc21, hc22, -, hr2⟩ := r23
      obtain ⟨a3, c3, rfl, hc31, hc32, -, hr3⟩ := r3
      unfold maxLen at hc22 hc32
      go_wp2
      go_loopw [12] (fun i wr => ∃ k : Nat, k ≤ ps.length ∧ i = .int .i64 k ∧ Below w3.heap.size w3 wr) (fun i _ => ps.length - (intOf i).toNat)
      case atStart => exact ⟨0, Nat.zero_le _, rfl, Below.refl _ _⟩
      case round =>
        obtain ⟨k, hk, rfl, hb⟩ := hrel
        by_cases hlt : k < ps.length
        · obtain ⟨b, off, rfl, hcell, hcell'⟩ := (hr2.below hb).fld k hlt
          obtain ⟨b2, off2, rfl, hcell2, hcell2'⟩ := (hr3.below hb).fld k hlt
          have hki : (k : Int) < (ps.length : Int) := by omega
          clear hr2 hr3 hXs
          go_wp2
          go_quiet (fail)
          go_wp2
          go_roundw
          case rel => exact ⟨k + 1, by omega, by go_num, below_drewN hb _⟩
          case measure => simp [intOf]; omega
        · have HB := Below.self_trans HB3 hb
          have HXr := HX3.below hb
          clear hr2 hr3 HX3 HB3 hb
          go_wp2_with fail
          refine (find_calls _ x name _ (hE.below HB) HXr hXs).mono ?_
          rintro e w4 ⟨rfl, hb4⟩
          rw [HPS.out]
          generalize hq : findP ps name = q
          have HQ := Lib.hid hq
          clear hq
          have HB4 := Below.self_trans HB hb4
          have HX4 := HXr.below hb4
          clear hb4 HB HXr
          cases q
          all_goals
            unfold findV
            simp only
            go_wp2_with fail
            refine (refFind_calls _ x name _ HX4 hXs).mono ?_
            rintro e w5 ⟨rfl, hb5⟩
            rw [HPS.out, HQ.out]
            unfold findV
            simp only
            have HB5 := Below.self_trans HB4 hb5
            clear hb5 HX4 HB4
            go_wp2_with fail
            refine (awake14_calls _ (hE.below HB5)).mono ?_
            rintro e w6 ⟨rfl, hb6⟩
            have HB6 := Below.self_trans HB5 hb6
            go_wp2
            go_ret
            exact ⟨rfl, HB6⟩
end Go.Proofs.YtffllobpaemlgaaDoor
