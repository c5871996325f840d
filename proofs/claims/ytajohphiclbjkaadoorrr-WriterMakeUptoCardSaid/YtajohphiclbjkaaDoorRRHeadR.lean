/- The heads that the reference writes. -/
import Derived.Test.YtajohphiclbjkaaDoorRRHeadP
import Derived.Test.YtajohphiclbjkaaDoorRRFmt
import Derived.Test.YtajohphiclbjkaaDoorRRLineF
import Derived.Test.YtajohphiclbjkaaDoorRRMutY
namespace Go.Proofs.YtajohphiclbjkaaDoorRR
open Go.RowKit Go.Own
set_option linter.unusedVariables false
set_option maxHeartbeats 2000000

/-- bytes that may be appended to, or nil -/
def OutY (B : Nat) (w : World) (v : Value) (l : List UInt8) : Prop := (l = [] ∧ v = .slice none 0 0) ∨ MutY B w v l
theorem OutY.rd {B : Nat} {w : World} {v : Value} {l : List UInt8} (h : OutY B w v l) : RdB w v l := by
  rcases h with ⟨rfl, rfl⟩ | h
  · exact RdB_nil _
  · exact h.rd

theorem allValid_calls (va : Value) (l : List Fld) (w : World) (Ha : RdF w va l) (hl : fsize l ≤ 2000000) :
    Calls Tryd.prog 116 #[va] w fun e w' => e = .returned (.bool (l.all validF)) ∧ Below w.heap.size w w' := by
  obtain ⟨a, cap, rfl, hlc, hcm, -, hc⟩ := Ha
  unfold maxLen at hcm
  have hlen := fsize_length l
  have hl2 : l.length ≤ 2000000 := by omega
  have HF := Lib.hid (show ∀ f ∈ l, f.name.size ≤ maxLen ∧ f.val.size ≤ maxLen from fun f hf => by have := fsize_mem hf; simp [maxLen]; omega)
  clear hl hlen
  go_enter Tryd.func116, Tryd.ntmps116
  go_wp2
  go_loopw [3] (fun i wr => ∃ k : Nat, k ≤ l.length ∧ i = .int .i64 k ∧ Below w.heap.size w wr ∧ Hid ((l.take k).all validF = true)) (fun i _ => l.length - (intOf i).toNat)
  case atStart => exact ⟨0, Nat.zero_le _, rfl, Below.refl _ _, Lib.hid rfl⟩
  case round =>
    obtain ⟨k, hk, rfl, hb, HD⟩ := hrel
    by_cases hlt : k < l.length
    · obtain ⟨b, off, rfl, hcell, hcell2⟩ := (hc.below hb).fld k hlt
      have hki : (k : Int) < (l.length : Int) := by omega
      obtain ⟨g1, g2⟩ := HF.out l[k] (List.getElem_mem hlt)
      cases hs : validF l[k] with
      | true =>
        go_wp2_with fail
        refine (refValid_calls l[k] _ g1 g2).mono ?_
        rintro e w1 ⟨rfl, hb1⟩
        rw [hs]
        have HB := Below.self_trans hb hb1
        clear hb1 hb hcell hcell2
        go_wp2
        go_roundw
        case rel => exact ⟨k + 1, by omega, by go_num, HB, Lib.hid (allF_succ k hlt HD.out hs)⟩
        case measure => simp [intOf]; omega
      | false =>
        have HR := Lib.hid (show l.all validF = false by rw [List.all_eq_false]; exact ⟨l[k], List.getElem_mem hlt, by simp [hs]⟩)
        go_wp2_with fail
        refine (refValid_calls l[k] _ g1 g2).mono ?_
        rintro e w1 ⟨rfl, hb1⟩
        rw [hs]
        have HB := Below.self_trans hb hb1
        clear hb1 hb hcell hcell2 HF HD
        go_wp2
        go_ret
        exact ⟨ret_bool HR.out.symm, HB⟩
    · have HR := Lib.hid (show l.all validF = true by have := HD.out; rwa [List.take_of_length_le (by omega)] at this)
      have hki : ¬ (k : Int) < (l.length : Int) := by omega
      clear hc HF HD
      go_wp2
      go_ret
      exact ⟨ret_bool HR.out.symm, hb⟩

set_option maxRecDepth 100000 in
theorem refHeadReq_calls (m t : ByteArray) (n : Int) (vf : Value) (fr : Bool) (vb : Value) (x : List Fld) (w : World) (hm : m.size ≤ 10000000) (ht : t.size ≤ 10000000) (Hf : RdF w vf x) (hx : fsize x ≤ 2000000) :
    Calls Tryd.prog 84 #[.agg #[.string m, .string t, .int .i64 n, vf, .bool fr, vb]] w fun e w' => (∃ v, e = .returned v ∧ OutY w.heap.size w' v (headB (fmtReq m t n) x)) ∧ Below w.heap.size w w' := by
  have HB0 := (Below.refl w.heap.size w).alloc (Nat.le_refl _) (.cells #[.string m, .string t, .int .i64 n, vf, .bool fr, vb] 27)
  have hfs := fmtReq_size m t n
  have C1 := Lib.hid (fun w => refFmtReq_calls m t n vf fr vb w (by omega) (by omega))
  generalize fmtReq m t n = line at hfs C1 ⊢
  have hsz : line.size ≤ 100000000 := by omega
  have hfz := format_size x
  have hf2 : (formatB x).size ≤ 4000000 := by unfold fsize at hx; omega
  cases h0 : line.toList.isEmpty with
  | true =>
    have HR := Lib.hid (headB_no (line := line) (l := x) (Or.inl h0))
    clear hfs hfz hf2
    go_enter Tryd.func84, Tryd.ntmps84
    go_wp2_with fail
    refine (C1.out _).mono ?_
    rintro e w1 ⟨rfl, hb⟩
    have hb1 := kept_below hb
    clear hb
    go_wp2
    go_ret
    exact ⟨⟨_, rfl, Or.inl ⟨HR.out, rfl⟩⟩, hb1⟩
  | false =>
    cases hv : x.all validF with
    | false =>
      have HR := Lib.hid (headB_no (line := line) (l := x) (Or.inr hv))
      clear hfs hfz hf2
      go_enter Tryd.func84, Tryd.ntmps84
      go_wp2_with fail
      refine (C1.out _).mono ?_
      rintro e w1 ⟨rfl, hb⟩
      have hb1 := kept_below hb
      have c3 := (keptN hb 3).1
      have CV := Lib.hid (allValid_calls vf x _ (Hf.below hb1) hx)
      rw [hv] at CV
      clear hb hv
      go_wp2_with fail
      refine CV.out.mono ?_
      rintro e w2 ⟨rfl, hb2⟩
      have hb3 := Below.self_trans hb1 hb2
      clear hb2
      go_wp2
      go_ret
      exact ⟨⟨_, rfl, Or.inl ⟨HR.out, rfl⟩⟩, hb3⟩
    | true =>
      have HR := Lib.hid (head_str h0 hv)
      have z1 : ¬ 9223372036854775807 < line.size + 2 := by omega
      have z2 : ¬ 9223372036854775807 < line.size + 2 + (formatB x).size := by omega
      have z3 : ¬ 9223372036854775807 < line.size + 2 + (formatB x).size + 2 := by omega
      have z0 : (line ++ ⟨#[13, 10]⟩ ++ formatB x ++ ⟨#[13, 10]⟩).size ≤ maxLen := by simp only [ByteArray.size_append]; have : (⟨#[13, 10]⟩ : ByteArray).size = 2 := rfl; simp [maxLen]; omega
      have CF := Lib.hid (fun w Ha => refFormat_calls vf x w Ha hx)
      generalize formatB x = F at CF HR hf2 z0 z2 z3
      clear hfs hfz
      go_enter Tryd.func84, Tryd.ntmps84
      go_wp2_with fail
      refine (C1.out _).mono ?_
      rintro e w1 ⟨rfl, hb⟩
      have hb1 := kept_below hb
      have hlt := kept_lt hb
      have c3 := (keptN hb 3).1
      have CV := Lib.hid (allValid_calls vf x _ (Hf.below hb1) hx)
      rw [hv] at CV
      clear hb hv
      go_wp2_with fail
      refine CV.out.mono ?_
      rintro e w2 ⟨rfl, hb2⟩
      have hb3 := Below.self_trans hb1 hb2
      have d3 := cell_below hb2 c3
      clear hb2 c3
      go_wp2_with fail
      refine (CF.out _ (Hf.below hb3)).mono ?_
      rintro e w3 ⟨rfl, hb4⟩
      have hb5 := Below.self_trans hb3 hb4
      clear hb4
      go_wp2_with (refine wpList_strbytes_own rfl 9 25 _ rfl _ rfl 5 Tryd.underlying9 Tryd.underlying25 Tryd.underlying5 ?_ z0; intro g capb w4 hb6 hm)
      have HZ := Lib.hid (show (line ++ ⟨#[13, 10]⟩ ++ F ++ ⟨#[13, 10]⟩).size = line.size + 2 + F.size + 2 by simp only [ByteArray.size_append]; rfl)
      generalize (line ++ ⟨#[13, 10]⟩ ++ F ++ ⟨#[13, 10]⟩) = S at HR hm HZ ⊢
      have hb7 := Below.self_trans hb5 hb6
      have HM := Lib.hid (hm.mono hb5.size)
      clear hb6 hm z0
      go_wp2
      go_ret
      exact ⟨⟨_, rfl, Or.inr (by have h := HM.out; rw [HZ.out] at h; rw [HR.out]; exact h)⟩, hb7⟩

set_option maxRecDepth 100000 in
theorem refHeadRep_calls (st : Int) (rs : ByteArray) (n : Int) (vf vb : Value) (x : List Fld) (w : World) (hm : rs.size ≤ 10000000) (Hf : RdF w vf x) (hx : fsize x ≤ 2000000) :
    Calls Tryd.prog 86 #[.agg #[.int .i64 st, .string rs, .int .i64 n, vf, vb]] w fun e w' => (∃ v, e = .returned v ∧ OutY w.heap.size w' v (headB (fmtSt st rs n) x)) ∧ Below w.heap.size w w' := by
  have HB0 := (Below.refl w.heap.size w).alloc (Nat.le_refl _) (.cells #[.int .i64 st, .string rs, .int .i64 n, vf, vb] 43)
  have hfs := fmtSt_size st n rs
  have C1 := Lib.hid (fun w => refFmtSt_calls st rs n vf vb w (by omega))
  generalize fmtSt st rs n = line at hfs C1 ⊢
  have hsz : line.size ≤ 100000000 := by omega
  have hfz := format_size x
  have hf2 : (formatB x).size ≤ 4000000 := by unfold fsize at hx; omega
  cases h0 : line.toList.isEmpty with
  | true =>
    have HR := Lib.hid (headB_no (line := line) (l := x) (Or.inl h0))
    clear hfs hfz hf2
    go_enter Tryd.func86, Tryd.ntmps86
    go_wp2_with fail
    refine (C1.out _).mono ?_
    rintro e w1 ⟨rfl, hb⟩
    have hb1 := kept_below hb
    clear hb
    go_wp2
    go_ret
    exact ⟨⟨_, rfl, Or.inl ⟨HR.out, rfl⟩⟩, hb1⟩
  | false =>
    cases hv : x.all validF with
    | false =>
      have HR := Lib.hid (headB_no (line := line) (l := x) (Or.inr hv))
      clear hfs hfz hf2
      go_enter Tryd.func86, Tryd.ntmps86
      go_wp2_with fail
      refine (C1.out _).mono ?_
      rintro e w1 ⟨rfl, hb⟩
      have hb1 := kept_below hb
      have c3 := (keptN hb 3).1
      have CV := Lib.hid (allValid_calls vf x _ (Hf.below hb1) hx)
      rw [hv] at CV
      clear hb hv
      go_wp2_with fail
      refine CV.out.mono ?_
      rintro e w2 ⟨rfl, hb2⟩
      have hb3 := Below.self_trans hb1 hb2
      clear hb2
      go_wp2
      go_ret
      exact ⟨⟨_, rfl, Or.inl ⟨HR.out, rfl⟩⟩, hb3⟩
    | true =>
      have HR := Lib.hid (head_str h0 hv)
      have z1 : ¬ 9223372036854775807 < line.size + 2 := by omega
      have z2 : ¬ 9223372036854775807 < line.size + 2 + (formatB x).size := by omega
      have z3 : ¬ 9223372036854775807 < line.size + 2 + (formatB x).size + 2 := by omega
      have z0 : (line ++ ⟨#[13, 10]⟩ ++ formatB x ++ ⟨#[13, 10]⟩).size ≤ maxLen := by simp only [ByteArray.size_append]; have : (⟨#[13, 10]⟩ : ByteArray).size = 2 := rfl; simp [maxLen]; omega
      have CF := Lib.hid (fun w Ha => refFormat_calls vf x w Ha hx)
      generalize formatB x = F at CF HR hf2 z0 z2 z3
      clear hfs hfz
      go_enter Tryd.func86, Tryd.ntmps86
      go_wp2_with fail
      refine (C1.out _).mono ?_
      rintro e w1 ⟨rfl, hb⟩
      have hb1 := kept_below hb
      have hlt := kept_lt hb
      have c3 := (keptN hb 3).1
      have CV := Lib.hid (allValid_calls vf x _ (Hf.below hb1) hx)
      rw [hv] at CV
      clear hb hv
      go_wp2_with fail
      refine CV.out.mono ?_
      rintro e w2 ⟨rfl, hb2⟩
      have hb3 := Below.self_trans hb1 hb2
      have d3 := cell_below hb2 c3
      clear hb2 c3
      go_wp2_with fail
      refine (CF.out _ (Hf.below hb3)).mono ?_
      rintro e w3 ⟨rfl, hb4⟩
      have hb5 := Below.self_trans hb3 hb4
      clear hb4
      go_wp2_with (refine wpList_strbytes_own rfl 9 25 _ rfl _ rfl 5 Tryd.underlying9 Tryd.underlying25 Tryd.underlying5 ?_ z0; intro g capb w4 hb6 hm)
      have HZ := Lib.hid (show (line ++ ⟨#[13, 10]⟩ ++ F ++ ⟨#[13, 10]⟩).size = line.size + 2 + F.size + 2 by simp only [ByteArray.size_append]; rfl)
      generalize (line ++ ⟨#[13, 10]⟩ ++ F ++ ⟨#[13, 10]⟩) = S at HR hm HZ ⊢
      have hb7 := Below.self_trans hb5 hb6
      have HM := Lib.hid (hm.mono hb5.size)
      clear hb6 hm z0
      go_wp2
      go_ret
      exact ⟨⟨_, rfl, Or.inr (by have h := HM.out; rw [HZ.out] at h; rw [HR.out]; exact h)⟩, hb7⟩
end Go.Proofs.YtajohphiclbjkaaDoorRR
