/- The heads that are written: FormatRequest and FormatReply of package head and of its reference. -/
import Derived.Test.YtglljdhhgmgbgaaGreatDoorPA
import Derived.Test.YtglljdhhgmgbgaaGreatDoorFmt
import Derived.Test.YtglljdhhgmgbgaaGreatDoorLineF
import Derived.Test.YtglljdhhgmgbgaaGreatDoorPB
import Derived.Deep.RegionHeld3
import Derived.Deep.DrawnRows
namespace Go.Proofs.YtglljdhhgmgbgaaGreatDoor
open Go.RowKit Go.Own
set_option linter.unusedVariables false
set_option maxHeartbeats 2000000

theorem of_drew {w w1 : World} (h : Below w.drew.heap.size w.drew w1) : Below w.heap.size w w1 := ((Below.refl _ _).drew).trans h

set_option maxRecDepth 100000 in
theorem starthead_calls (va : Value) (l : List Fld) (line : ByteArray) (w : World) (Ha : RdF w va l) (hl : fsize l ≤ 2000000) (hs : line.size ≤ 1000000000) :
    Calls Tryz.prog 34 #[.agg #[va], .string line] w fun e w' => (∃ v, e = .returned v ∧ RdB w' v (headB line l)) ∧ Below w.heap.size w w' := by
  have HB0 := (Below.refl w.heap.size w).alloc (Nat.le_refl _) (.cells #[va] 68)
  have HF := Lib.hid (fformat_calls va l _ (Ha.below HB0) hl)
  have hfs := format_size l
  have hf2 : (formatB l).size ≤ 4000000 := by unfold fsize at hl; omega
  obtain ⟨a, cap, rfl, hlc, hcm, -, -⟩ := Ha
  cases hv : l.all validF with
  | false =>
    have HR := Lib.hid (headB_no (line := line) (l := l) (Or.inr hv))
    have hpos := all_not_nil hv
    have hpos2 : (0 : Int) < (l.length : Int) := by omega
    have he : formatB l = .empty := by unfold formatB; rw [hv]; rfl
    rw [he] at HF
    clear he hv hfs hf2
    cases h0 : line.toList.isEmpty with
    | true =>
      go_enter Tryz.func34, Tryz.ntmps34
      go_wp2_with fail
      refine HF.out.mono ?_
      rintro e w1 ⟨rfl, hb⟩
      have hb1 := kept_below hb
      clear hb
      go_wp2
      go_ret
      exact ⟨⟨_, rfl, by rw [HR.out]; exact RdB_nil _⟩, hb1⟩
    | false =>
      go_enter Tryz.func34, Tryz.ntmps34
      go_wp2_with fail
      refine HF.out.mono ?_
      rintro e w1 ⟨rfl, hb⟩
      have hb1 := kept_below hb
      have c0 := (keptN hb 0).1
      clear hb
      go_wp2
      go_ret
      exact ⟨⟨_, rfl, by rw [HR.out]; exact RdB_nil _⟩, hb1⟩
  | true =>
    cases h0 : line.toList.isEmpty with
    | true =>
      have HR := Lib.hid (headB_no (line := line) (l := l) (Or.inl h0))
      clear hv hfs
      go_enter Tryz.func34, Tryz.ntmps34
      go_wp2_with fail
      refine HF.out.mono ?_
      rintro e w1 ⟨rfl, hb⟩
      have hb1 := kept_below hb
      clear hb
      go_wp2
      go_ret
      exact ⟨⟨_, rfl, by rw [HR.out]; exact RdB_nil _⟩, hb1⟩
    | false =>
      have HR := Lib.hid (head_str h0 hv)
      have z0 : (line ++ ⟨#[13, 10]⟩ ++ formatB l ++ ⟨#[13, 10]⟩).size ≤ maxLen := by simp only [ByteArray.size_append]; have : (⟨#[13, 10]⟩ : ByteArray).size = 2 := rfl; simp [maxLen]; omega
      have hfe := format_isEmpty hv
      have z1 : ¬ 9223372036854775807 < line.size + 2 := by omega
      have z2 : ¬ 9223372036854775807 < line.size + 2 + (formatB l).size := by omega
      have z3 : ¬ 9223372036854775807 < line.size + 2 + (formatB l).size + 2 := by omega
      generalize formatB l = F at HF HR hfe hf2 z0 z2 z3
      cases hl0 : l.isEmpty with
      | true =>
        rw [hl0] at hfe
        have hlen : ¬ (0 : Int) < (l.length : Int) := by rw [List.isEmpty_iff.1 hl0]; simp
        clear hl0 hv hfs
        go_enter Tryz.func34, Tryz.ntmps34
        go_wp2_with fail
        refine HF.out.mono ?_
        rintro e w1 ⟨rfl, hb⟩
        have hb1 := kept_below hb
        have c0 := (keptN hb 0).1
        clear hb
        go_wp2_with (refine wpList_strbytes_own rfl 9 23 _ rfl _ rfl 5 Tryz.underlying9 Tryz.underlying23 Tryz.underlying5 ?_ z0; intro g capb w2 hb2 hm)
        have HZ := Lib.hid (show (line ++ ⟨#[13, 10]⟩ ++ F ++ ⟨#[13, 10]⟩).size = line.size + 2 + F.size + 2 by simp only [ByteArray.size_append]; rfl)
        generalize (line ++ ⟨#[13, 10]⟩ ++ F ++ ⟨#[13, 10]⟩) = S at HR hm HZ ⊢
        have hb3 := Below.self_trans hb1 hb2
        have HM := Lib.hid hm.rd
        clear hb2 hm z0
        go_wp2
        go_ret
        exact ⟨⟨_, rfl, by have h := HM.out; rw [HZ.out] at h; rw [HR.out]; exact h⟩, hb3⟩
      | false =>
        rw [hl0] at hfe
        clear hl0 hv hfs
        go_enter Tryz.func34, Tryz.ntmps34
        go_wp2_with fail
        refine HF.out.mono ?_
        rintro e w1 ⟨rfl, hb⟩
        have hb1 := kept_below hb
        have c0 := (keptN hb 0).1
        clear hb
        go_wp2_with (refine wpList_strbytes_own rfl 9 23 _ rfl _ rfl 5 Tryz.underlying9 Tryz.underlying23 Tryz.underlying5 ?_ z0; intro g capb w2 hb2 hm)
        have HZ := Lib.hid (show (line ++ ⟨#[13, 10]⟩ ++ F ++ ⟨#[13, 10]⟩).size = line.size + 2 + F.size + 2 by simp only [ByteArray.size_append]; rfl)
        generalize (line ++ ⟨#[13, 10]⟩ ++ F ++ ⟨#[13, 10]⟩) = S at HR hm HZ ⊢
        have hb3 := Below.self_trans hb1 hb2
        have HM := Lib.hid hm.rd
        clear hb2 hm z0
        go_wp2
        go_ret
        exact ⟨⟨_, rfl, by have h := HM.out; rw [HZ.out] at h; rw [HR.out]; exact h⟩, hb3⟩

theorem hwrite_calls (va : Value) (l : List Fld) (line : ByteArray) (w : World) (Ha : RdF w va l) (hl : fsize l ≤ 2000000) (hs : line.size ≤ 1000000000) :
    Calls Tryz.prog 32 #[.string line, .func (.func 34) #[.agg #[va]] #[]] w fun e w' => (∃ v, e = .returned v ∧ RdB w' v (headB line l)) ∧ Below w.heap.size w w' := by
  go_enter Tryz.func32, Tryz.ntmps32
  go_wp2_with fail
  refine (starthead_calls va l line _ Ha hl hs).mono ?_
  rintro e w1 ⟨⟨v, rfl, hr⟩, hb⟩
  go_wp2
  go_ret
  exact ⟨⟨_, rfl, hr⟩, hb⟩

set_option maxRecDepth 100000 in
theorem hfmtReq_calls (m t : ByteArray) (n : Int) (vf : Value) (fr : Bool) (vb : Value) (x : List Fld) (w : World) (hE : EnvP w) (hm : m.size ≤ 10000000) (ht : t.size ≤ 10000000) (Hf : RdF w vf x) (hx : fsize x ≤ 2000000) :
    Calls Tryz.prog 15 #[.agg #[.string m, .string t, .int .i64 n, vf, .bool fr, vb]] w fun e w' => (∃ v, e = .returned v ∧ RdB w' v (headB (fmtReq m t n) x)) ∧ Below w.heap.size w w' := by
  have HB0 := (Below.refl w.heap.size w).alloc (Nat.le_refl _) (.cells #[.string m, .string t, .int .i64 n, vf, .bool fr, vb] 35)
  have hfs := fmtReq_size m t n
  have C1 := Lib.hid (fun w hE => fmtReq_calls m t n vf fr vb w hE (by omega) (by omega))
  generalize fmtReq m t n = line at hfs C1 ⊢
  obtain ⟨af, cf, rfl, q1, q2, q3, q4⟩ := id Hf
  have H0 := Lib.hid (heap_alloc_new w (.cells #[.string m, .string t, .int .i64 n, .slice af x.length cf, .bool fr, vb] 35))
  go_enter Tryz.func15, Tryz.ntmps15
  go_wp2_with fail
  go_region_held3 (fun w' => w'.cell? ⟨w.heap.size, 0, none⟩ = some (.string m) ∧ w'.cell? ⟨w.heap.size, 1, none⟩ = some (.string t) ∧ w'.cell? ⟨w.heap.size, 2, none⟩ = some (.int .i64 n) ∧ w'.cell? ⟨w.heap.size, 3, none⟩ = some (.slice af x.length cf) ∧ w'.cell? ⟨w.heap.size, 4, none⟩ = some (.bool fr) ∧ w'.cell? ⟨w.heap.size, 5, none⟩ = some vb) (first | exact hc3 | go_keep) (first
    | (go_at_call 33; refine (C1.out _ (hE.below HB0.drew)).mono ?_; rintro e w3 ⟨rfl, hb3⟩; have hb4 := of_drew hb3; obtain ⟨hc3, -, -⟩ := row6 (row_below H0.out hb4); have HB3 := Below.self_trans HB0 hb4; have hf3 := Hf.below HB3)
    | (go_at_call 32; refine (hwrite_calls _ x line _ hf3 hx (by omega)).mono ?_; rintro e w5 ⟨⟨v, rfl, hr⟩, hb5⟩; have hb6 := Below.self_trans hb4 hb5; obtain ⟨hc3, -, -⟩ := row6 (row_below H0.out hb6); have HB5 := Below.self_trans HB3 hb5))
  all_goals
    go_wp2
    go_ret
    exact ⟨⟨_, rfl, hr⟩, HB5⟩

set_option maxRecDepth 100000 in
theorem hfmtRep_calls (st : Int) (rs : ByteArray) (n : Int) (vf vb : Value) (x : List Fld) (w : World) (hE : EnvP w) (hm : rs.size ≤ 10000000) (Hf : RdF w vf x) (hx : fsize x ≤ 2000000) :
    Calls Tryz.prog 17 #[.agg #[.int .i64 st, .string rs, .int .i64 n, vf, vb]] w fun e w' => (∃ v, e = .returned v ∧ RdB w' v (headB (fmtSt st rs n) x)) ∧ Below w.heap.size w w' := by
  have HB0 := (Below.refl w.heap.size w).alloc (Nat.le_refl _) (.cells #[.int .i64 st, .string rs, .int .i64 n, vf, vb] 37)
  have hfs := fmtSt_size st n rs
  have C1 := Lib.hid (fun w hE => fmtSt_calls st rs n vf vb w hE (by omega))
  generalize fmtSt st rs n = line at hfs C1 ⊢
  obtain ⟨af, cf, rfl, q1, q2, q3, q4⟩ := id Hf
  have H0 := Lib.hid (heap_alloc_new w (.cells #[.int .i64 st, .string rs, .int .i64 n, .slice af x.length cf, vb] 37))
  go_enter Tryz.func17, Tryz.ntmps17
  go_wp2_with fail
  go_region_held3 (fun w' => w'.cell? ⟨w.heap.size, 0, none⟩ = some (.int .i64 st) ∧ w'.cell? ⟨w.heap.size, 1, none⟩ = some (.string rs) ∧ w'.cell? ⟨w.heap.size, 2, none⟩ = some (.int .i64 n) ∧ w'.cell? ⟨w.heap.size, 3, none⟩ = some (.slice af x.length cf) ∧ w'.cell? ⟨w.heap.size, 4, none⟩ = some vb) (first | exact hc3 | go_keep) (first
    | (go_at_call 38; refine (C1.out _ (hE.below HB0.drew)).mono ?_; rintro e w3 ⟨rfl, hb3⟩; have hb4 := of_drew hb3; obtain ⟨hc3, -, -⟩ := row5 (row_below H0.out hb4); have HB3 := Below.self_trans HB0 hb4; have hf3 := Hf.below HB3)
    | (go_at_call 32; refine (hwrite_calls _ x line _ hf3 hx (by omega)).mono ?_; rintro e w5 ⟨⟨v, rfl, hr⟩, hb5⟩; have hb6 := Below.self_trans hb4 hb5; obtain ⟨hc3, -, -⟩ := row5 (row_below H0.out hb6); have HB5 := Below.self_trans HB3 hb5))
  all_goals
    go_wp2
    go_ret
    exact ⟨⟨_, rfl, hr⟩, HB5⟩
end Go.Proofs.YtglljdhhgmgbgaaGreatDoor

/-! ### The heads that the reference writes -/
namespace Go.Proofs.YtglljdhhgmgbgaaGreatDoor
open Go.RowKit Go.Own
set_option linter.unusedVariables false
set_option maxHeartbeats 2000000

/-- bytes that may be appended to, or nil -/
def OutY (B : Nat) (w : World) (v : Value) (l : List UInt8) : Prop := (l = [] ∧ v = .slice none 0 0) ∨ MutY B w v l
theorem OutY.rd {B : Nat} {w : World} {v : Value} {l : List UInt8} (h : OutY B w v l) : RdB w v l := by
  rcases h with ⟨rfl, rfl⟩ | h
  · exact RdB_nil _
  · exact h.rd

theorem allValid_calls (va : Value) (l : List Fld) (w : World) (Ha : RdF w va l) (hl : fsize l ≤ 2000000) :
    Calls Tryz.prog 36 #[va] w fun e w' => e = .returned (.bool (l.all validF)) ∧ Below w.heap.size w w' := by
  obtain ⟨a, cap, rfl, hlc, hcm, -, hc⟩ := Ha
  unfold maxLen at hcm
  have hlen := fsize_length l
  have hl2 : l.length ≤ 2000000 := by omega
  have HF := Lib.hid (show ∀ f ∈ l, f.name.size ≤ maxLen ∧ f.val.size ≤ maxLen from fun f hf => by have := fsize_mem hf; simp [maxLen]; omega)
  clear hl hlen
  go_enter Tryz.func36, Tryz.ntmps36
  go_wp2
  go_loopw [3] (fun i wr => ∃ k : Nat, k ≤ l.length ∧ i = .int .i64 k ∧ Below w.heap.size w wr ∧ Hid ((l.take k).all validF = true)) (fun i _ => l.length - (intOf i).toNat)
  case atStart => exact ⟨0, Nat.zero_le _, rfl, Below.refl _ _, Lib.hid rfl⟩
  case round =>
    obtain ⟨k, hk, rfl, hb, HD⟩ := hrel
    by_cases hlt : k < l.length
    · obtain ⟨b, off, rfl, hcell, hcell2⟩ := (hc.below hb).fld k hlt
      have hki : (k : Int) < (l.length : Int) := by omega
      obtain ⟨g1, g2⟩ := HF.out l[k] (List.getElem_mem hlt)
      cases hs : validF l[k] with
      | true =>
        go_wp2_with fail
        refine (refValid_calls l[k] _ g1 g2).mono ?_
        rintro e w1 ⟨rfl, hb1⟩
        rw [hs]
        have HB := Below.self_trans hb hb1
        clear hb1 hb hcell hcell2
        go_wp2
        go_roundw
        case rel => exact ⟨k + 1, by omega, by go_num, HB, Lib.hid (allF_succ k hlt HD.out hs)⟩
        case measure => simp [intOf]; omega
      | false =>
        have HR := Lib.hid (show l.all validF = false by rw [List.all_eq_false]; exact ⟨l[k], List.getElem_mem hlt, by simp [hs]⟩)
        go_wp2_with fail
        refine (refValid_calls l[k] _ g1 g2).mono ?_
        rintro e w1 ⟨rfl, hb1⟩
        rw [hs]
        have HB := Below.self_trans hb hb1
        clear hb1 hb hcell hcell2 HF HD
        go_wp2
        go_ret
        exact ⟨ret_bool HR.out.symm, HB⟩
    · have HR := Lib.hid (show l.all validF = true by have := HD.out; rwa [List.take_of_length_le (by omega)] at this)
      have hki : ¬ (k : Int) < (l.length : Int) := by omega
      clear hc HF HD
      go_wp2
      go_ret
      exact ⟨ret_bool HR.out.symm, hb⟩

set_option maxRecDepth 100000 in
theorem refHeadReq_calls (m t : ByteArray) (n : Int) (vf : Value) (fr : Bool) (vb : Value) (x : List Fld) (w : World) (hm : m.size ≤ 10000000) (ht : t.size ≤ 10000000) (Hf : RdF w vf x) (hx : fsize x ≤ 2000000) :
    Calls Tryz.prog 16 #[.agg #[.string m, .string t, .int .i64 n, vf, .bool fr, vb]] w fun e w' => (∃ v, e = .returned v ∧ OutY w.heap.size w' v (headB (fmtReq m t n) x)) ∧ Below w.heap.size w w' := by
  have HB0 := (Below.refl w.heap.size w).alloc (Nat.le_refl _) (.cells #[.string m, .string t, .int .i64 n, vf, .bool fr, vb] 35)
  have hfs := fmtReq_size m t n
  have C1 := Lib.hid (fun w => refFmtReq_calls m t n vf fr vb w (by omega) (by omega))
  generalize fmtReq m t n = line at hfs C1 ⊢
  have hsz : line.size ≤ 100000000 := by omega
  have hfz := format_size x
  have hf2 : (formatB x).size ≤ 4000000 := by unfold fsize at hx; omega
  cases h0 : line.toList.isEmpty with
  | true =>
    have HR := Lib.hid (headB_no (line := line) (l := x) (Or.inl h0))
    clear hfs hfz hf2
    go_enter Tryz.func16, Tryz.ntmps16
    go_wp2_with fail
    refine (C1.out _).mono ?_
    rintro e w1 ⟨rfl, hb⟩
    have hb1 := kept_below hb
    clear hb
    go_wp2
    go_ret
    exact ⟨⟨_, rfl, Or.inl ⟨HR.out, rfl⟩⟩, hb1⟩
  | false =>
    cases hv : x.all validF with
    | false =>
      have HR := Lib.hid (headB_no (line := line) (l := x) (Or.inr hv))
      clear hfs hfz hf2
      go_enter Tryz.func16, Tryz.ntmps16
      go_wp2_with fail
      refine (C1.out _).mono ?_
      rintro e w1 ⟨rfl, hb⟩
      have hb1 := kept_below hb
      have c3 := (keptN hb 3).1
      have CV := Lib.hid (allValid_calls vf x _ (Hf.below hb1) hx)
      rw [hv] at CV
      clear hb hv
      go_wp2_with fail
      refine CV.out.mono ?_
      rintro e w2 ⟨rfl, hb2⟩
      have hb3 := Below.self_trans hb1 hb2
      clear hb2
      go_wp2
      go_ret
      exact ⟨⟨_, rfl, Or.inl ⟨HR.out, rfl⟩⟩, hb3⟩
    | true =>
      have HR := Lib.hid (head_str h0 hv)
      have z1 : ¬ 9223372036854775807 < line.size + 2 := by omega
      have z2 : ¬ 9223372036854775807 < line.size + 2 + (formatB x).size := by omega
      have z3 : ¬ 9223372036854775807 < line.size + 2 + (formatB x).size + 2 := by omega
      have z0 : (line ++ ⟨#[13, 10]⟩ ++ formatB x ++ ⟨#[13, 10]⟩).size ≤ maxLen := by simp only [ByteArray.size_append]; have : (⟨#[13, 10]⟩ : ByteArray).size = 2 := rfl; simp [maxLen]; omega
      have CF := Lib.hid (fun w Ha => refFormat_calls vf x w Ha hx)
      generalize formatB x = F at CF HR hf2 z0 z2 z3
      clear hfs hfz
      go_enter Tryz.func16, Tryz.ntmps16
      go_wp2_with fail
      refine (C1.out _).mono ?_
      rintro e w1 ⟨rfl, hb⟩
      have hb1 := kept_below hb
      have hlt := kept_lt hb
      have c3 := (keptN hb 3).1
      have CV := Lib.hid (allValid_calls vf x _ (Hf.below hb1) hx)
      rw [hv] at CV
      clear hb hv
      go_wp2_with fail
      refine CV.out.mono ?_
      rintro e w2 ⟨rfl, hb2⟩
      have hb3 := Below.self_trans hb1 hb2
      have d3 := cell_below hb2 c3
      clear hb2 c3
      go_wp2_with fail
      refine (CF.out _ (Hf.below hb3)).mono ?_
      rintro e w3 ⟨rfl, hb4⟩
      have hb5 := Below.self_trans hb3 hb4
      clear hb4
      go_wp2_with (refine wpList_strbytes_own rfl 9 23 _ rfl _ rfl 5 Tryz.underlying9 Tryz.underlying23 Tryz.underlying5 ?_ z0; intro g capb w4 hb6 hm)
      have HZ := Lib.hid (show (line ++ ⟨#[13, 10]⟩ ++ F ++ ⟨#[13, 10]⟩).size = line.size + 2 + F.size + 2 by simp only [ByteArray.size_append]; rfl)
      generalize (line ++ ⟨#[13, 10]⟩ ++ F ++ ⟨#[13, 10]⟩) = S at HR hm HZ ⊢
      have hb7 := Below.self_trans hb5 hb6
      have HM := Lib.hid (hm.mono hb5.size)
      clear hb6 hm z0
      go_wp2
      go_ret
      exact ⟨⟨_, rfl, Or.inr (by have h := HM.out; rw [HZ.out] at h; rw [HR.out]; exact h)⟩, hb7⟩

set_option maxRecDepth 100000 in
theorem refHeadRep_calls (st : Int) (rs : ByteArray) (n : Int) (vf vb : Value) (x : List Fld) (w : World) (hm : rs.size ≤ 10000000) (Hf : RdF w vf x) (hx : fsize x ≤ 2000000) :
    Calls Tryz.prog 18 #[.agg #[.int .i64 st, .string rs, .int .i64 n, vf, vb]] w fun e w' => (∃ v, e = .returned v ∧ OutY w.heap.size w' v (headB (fmtSt st rs n) x)) ∧ Below w.heap.size w w' := by
  have HB0 := (Below.refl w.heap.size w).alloc (Nat.le_refl _) (.cells #[.int .i64 st, .string rs, .int .i64 n, vf, vb] 37)
  have hfs := fmtSt_size st n rs
  have C1 := Lib.hid (fun w => refFmtSt_calls st rs n vf vb w (by omega))
  generalize fmtSt st rs n = line at hfs C1 ⊢
  have hsz : line.size ≤ 100000000 := by omega
  have hfz := format_size x
  have hf2 : (formatB x).size ≤ 4000000 := by unfold fsize at hx; omega
  cases h0 : line.toList.isEmpty with
  | true =>
    have HR := Lib.hid (headB_no (line := line) (l := x) (Or.inl h0))
    clear hfs hfz hf2
    go_enter Tryz.func18, Tryz.ntmps18
    go_wp2_with fail
    refine (C1.out _).mono ?_
    rintro e w1 ⟨rfl, hb⟩
    have hb1 := kept_below hb
    clear hb
    go_wp2
    go_ret
    exact ⟨⟨_, rfl, Or.inl ⟨HR.out, rfl⟩⟩, hb1⟩
  | false =>
    cases hv : x.all validF with
    | false =>
      have HR := Lib.hid (headB_no (line := line) (l := x) (Or.inr hv))
      clear hfs hfz hf2
      go_enter Tryz.func18, Tryz.ntmps18
      go_wp2_with fail
      refine (C1.out _).mono ?_
      rintro e w1 ⟨rfl, hb⟩
      have hb1 := kept_below hb
      have c3 := (keptN hb 3).1
      have CV := Lib.hid (allValid_calls vf x _ (Hf.below hb1) hx)
      rw [hv] at CV
      clear hb hv
      go_wp2_with fail
      refine CV.out.mono ?_
      rintro e w2 ⟨rfl, hb2⟩
      have hb3 := Below.self_trans hb1 hb2
      clear hb2
      go_wp2
      go_ret
      exact ⟨⟨_, rfl, Or.inl ⟨HR.out, rfl⟩⟩, hb3⟩
    | true =>
      have HR := Lib.hid (head_str h0 hv)
      have z1 : ¬ 9223372036854775807 < line.size + 2 := by omega
      have z2 : ¬ 9223372036854775807 < line.size + 2 + (formatB x).size := by omega
      have z3 : ¬ 9223372036854775807 < line.size + 2 + (formatB x).size + 2 := by omega
      have z0 : (line ++ ⟨#[13, 10]⟩ ++ formatB x ++ ⟨#[13, 10]⟩).size ≤ maxLen := by simp only [ByteArray.size_append]; have : (⟨#[13, 10]⟩ : ByteArray).size = 2 := rfl; simp [maxLen]; omega
      have CF := Lib.hid (fun w Ha => refFormat_calls vf x w Ha hx)
      generalize formatB x = F at CF HR hf2 z0 z2 z3
      clear hfs hfz
      go_enter Tryz.func18, Tryz.ntmps18
      go_wp2_with fail
      refine (C1.out _).mono ?_
      rintro e w1 ⟨rfl, hb⟩
      have hb1 := kept_below hb
      have hlt := kept_lt hb
      have c3 := (keptN hb 3).1
      have CV := Lib.hid (allValid_calls vf x _ (Hf.below hb1) hx)
      rw [hv] at CV
      clear hb hv
      go_wp2_with fail
      refine CV.out.mono ?_
      rintro e w2 ⟨rfl, hb2⟩
      have hb3 := Below.self_trans hb1 hb2
      have d3 := cell_below hb2 c3
      clear hb2 c3
      go_wp2_with fail
      refine (CF.out _ (Hf.below hb3)).mono ?_
      rintro e w3 ⟨rfl, hb4⟩
      have hb5 := Below.self_trans hb3 hb4
      clear hb4
      go_wp2_with (refine wpList_strbytes_own rfl 9 23 _ rfl _ rfl 5 Tryz.underlying9 Tryz.underlying23 Tryz.underlying5 ?_ z0; intro g capb w4 hb6 hm)
      have HZ := Lib.hid (show (line ++ ⟨#[13, 10]⟩ ++ F ++ ⟨#[13, 10]⟩).size = line.size + 2 + F.size + 2 by simp only [ByteArray.size_append]; rfl)
      generalize (line ++ ⟨#[13, 10]⟩ ++ F ++ ⟨#[13, 10]⟩) = S at HR hm HZ ⊢
      have hb7 := Below.self_trans hb5 hb6
      have HM := Lib.hid (hm.mono hb5.size)
      clear hb6 hm z0
      go_wp2
      go_ret
      exact ⟨⟨_, rfl, Or.inr (by have h := HM.out; rw [HZ.out] at h; rw [HR.out]; exact h)⟩, hb7⟩
end Go.Proofs.YtglljdhhgmgbgaaGreatDoor
