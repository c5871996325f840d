/- The heads that are written: FormatRequest and FormatReply of package head and of its reference. -/
import Derived.Test.YtglljdhhgmgbgaaDoorPA
import Derived.Test.YtglljdhhgmgbgaaDoorFmt
import Derived.Test.YtglljdhhgmgbgaaDoorLineF
import Derived.Test.YtglljdhhgmgbgaaDoorPB
import Derived.Deep.RegionHeld3
import Derived.Deep.DrawnRows
namespace Go.Proofs.YtglljdhhgmgbgaaDoor
open Go.RowKit Go.Own
set_option linter.unusedVariables false
set_option maxHeartbeats 2000000

theorem of_drew {w w1 : World} (h : Below w.drew.heap.size w.drew w1) : Below w.heap.size w w1 := ((Below.refl _ _).drew).trans h

set_option maxRecDepth 100000 in
theorem starthead_calls (va : Value) (l : List Fld) (line : ByteArray) (w : World) (Ha : RdF w va l) (hl : fsize l ≤ 2000000) (hs : line.size ≤ 1000000000) :
    Calls Tryd.prog 14 #[.agg #[va], .string line] w fun e w' => (∃ v, e = .returned v ∧ RdB w' v (headB line l)) ∧ Below w.heap.size w w' := by
  have HB0 := (Below.refl w.heap.size w).alloc (Nat.le_refl _) (.cells #[va] 46)
  have HF := Lib.hid (fformat_calls va l _ (Ha.below HB0) hl)
  have hfs := format_size l
  have hf2 : (formatB l).size ≤ 4000000 := by unfold fsize at hl; omega
  obtain ⟨a, cap, rfl, hlc, hcm, -, -⟩ := Ha
  cases hv : l.all validF with
  | false =>
    have HR := Lib.hid (headB_no (line := line) (l := l) (Or.inr hv))
    have hpos := all_not_nil hv
    have hpos2 : (0 : Int) < (l.length : Int) := by omega
    have he : formatB l = .empty := by unfold formatB; rw [hv]; rfl
    rw [he] at HF
    clear he hv hfs hf2
    cases h0 : line.toList.isEmpty with
    | true =>
      go_enter Tryd.func14, Tryd.ntmps14
      go_wp2_with fail
      refine HF.out.mono ?_
      rintro e w1 ⟨rfl, hb⟩
      have hb1 := kept_below hb
      clear hb
      go_wp2
      go_ret
      exact ⟨⟨_, rfl, by rw [HR.out]; exact RdB_nil _⟩, hb1⟩
    | false =>
      go_enter Tryd.func14, Tryd.ntmps14
      go_wp2_with fail
      refine HF.out.mono ?_
      rintro e w1 ⟨rfl, hb⟩
      have hb1 := kept_below hb
      have c0 := (keptN hb 0).1
      clear hb
      go_wp2
      go_ret
      exact ⟨⟨_, rfl, by rw [HR.out]; exact RdB_nil _⟩, hb1⟩
  | true =>
    cases h0 : line.toList.isEmpty with
    | true =>
      have HR := Lib.hid (headB_no (line := line) (l := l) (Or.inl h0))
      clear hv hfs
      go_enter Tryd.func14, Tryd.ntmps14
      go_wp2_with fail
      refine HF.out.mono ?_
      rintro e w1 ⟨rfl, hb⟩
      have hb1 := kept_below hb
      clear hb
      go_wp2
      go_ret
      exact ⟨⟨_, rfl, by rw [HR.out]; exact RdB_nil _⟩, hb1⟩
    | false =>
      have HR := Lib.hid (head_str h0 hv)
      have z0 : (line ++ ⟨#[13, 10]⟩ ++ formatB l ++ ⟨#[13, 10]⟩).size ≤ maxLen := by simp only [ByteArray.size_append]; have : (⟨#[13, 10]⟩ : ByteArray).size = 2 := rfl; simp [maxLen]; omega
      have hfe := format_isEmpty hv
      have z1 : ¬ 9223372036854775807 < line.size + 2 := by omega
      have z2 : ¬ 9223372036854775807 < line.size + 2 + (formatB l).size := by omega
      have z3 : ¬ 9223372036854775807 < line.size + 2 + (formatB l).size + 2 := by omega
      generalize formatB l = F at HF HR hfe hf2 z0 z2 z3
      cases hl0 : l.isEmpty with
      | true =>
        rw [hl0] at hfe
        have hlen : ¬ (0 : Int) < (l.length : Int) := by rw [List.isEmpty_iff.1 hl0]; simp
        clear hl0 hv hfs
        go_enter Tryd.func14, Tryd.ntmps14
        go_wp2_with fail
        refine HF.out.mono ?_
        rintro e w1 ⟨rfl, hb⟩
        have hb1 := kept_below hb
        have c0 := (keptN hb 0).1
        clear hb
        go_wp2_with (refine wpList_strbytes_own rfl 9 26 _ rfl _ rfl 5 Tryd.underlying9 Tryd.underlying26 Tryd.underlying5 ?_ z0; intro g capb w2 hb2 hm)
        have HZ := Lib.hid (show (line ++ ⟨#[13, 10]⟩ ++ F ++ ⟨#[13, 10]⟩).size = line.size + 2 + F.size + 2 by simp only [ByteArray.size_append]; rfl)
        generalize (line ++ ⟨#[13, 10]⟩ ++ F ++ ⟨#[13, 10]⟩) = S at HR hm HZ ⊢
        have hb3 := Below.self_trans hb1 hb2
        have HM := Lib.hid hm.rd
        clear hb2 hm z0
        go_wp2
        go_ret
        exact ⟨⟨_, rfl, by have h := HM.out; rw [HZ.out] at h; rw [HR.out]; exact h⟩, hb3⟩
      | false =>
        rw [hl0] at hfe
        clear hl0 hv hfs
        go_enter Tryd.func14, Tryd.ntmps14
        go_wp2_with fail
        refine HF.out.mono ?_
        rintro e w1 ⟨rfl, hb⟩
        have hb1 := kept_below hb
        have c0 := (keptN hb 0).1
        clear hb
        go_wp2_with (refine wpList_strbytes_own rfl 9 26 _ rfl _ rfl 5 Tryd.underlying9 Tryd.underlying26 Tryd.underlying5 ?_ z0; intro g capb w2 hb2 hm)
        have HZ := Lib.hid (show (line ++ ⟨#[13, 10]⟩ ++ F ++ ⟨#[13, 10]⟩).size = line.size + 2 + F.size + 2 by simp only [ByteArray.size_append]; rfl)
        generalize (line ++ ⟨#[13, 10]⟩ ++ F ++ ⟨#[13, 10]⟩) = S at HR hm HZ ⊢
        have hb3 := Below.self_trans hb1 hb2
        have HM := Lib.hid hm.rd
        clear hb2 hm z0
        go_wp2
        go_ret
        exact ⟨⟨_, rfl, by have h := HM.out; rw [HZ.out] at h; rw [HR.out]; exact h⟩, hb3⟩

theorem hwrite_calls (va : Value) (l : List Fld) (line : ByteArray) (w : World) (Ha : RdF w va l) (hl : fsize l ≤ 2000000) (hs : line.size ≤ 1000000000) :
    Calls Tryd.prog 12 #[.string line, .func (.func 14) #[.agg #[va]] #[]] w fun e w' => (∃ v, e = .returned v ∧ RdB w' v (headB line l)) ∧ Below w.heap.size w w' := by
  go_enter Tryd.func12, Tryd.ntmps12
  go_wp2_with fail
  refine (starthead_calls va l line _ Ha hl hs).mono ?_
  rintro e w1 ⟨⟨v, rfl, hr⟩, hb⟩
  go_wp2
  go_ret
  exact ⟨⟨_, rfl, hr⟩, hb⟩

set_option maxRecDepth 100000 in
theorem hfmtReq_calls (m t : ByteArray) (n : Int) (vf : Value) (fr : Bool) (vb : Value) (x : List Fld) (w : World) (hE : EnvP w) (hm : m.size ≤ 10000000) (ht : t.size ≤ 10000000) (Hf : RdF w vf x) (hx : fsize x ≤ 2000000) :
    Calls Tryd.prog 6 #[.agg #[.string m, .string t, .int .i64 n, vf, .bool fr, vb]] w fun e w' => (∃ v, e = .returned v ∧ RdB w' v (headB (fmtReq m t n) x)) ∧ Below w.heap.size w w' := by
  have HB0 := (Below.refl w.heap.size w).alloc (Nat.le_refl _) (.cells #[.string m, .string t, .int .i64 n, vf, .bool fr, vb] 28)
  have hfs := fmtReq_size m t n
  have C1 := Lib.hid (fun w hE => fmtReq_calls m t n vf fr vb w hE (by omega) (by omega))
  generalize fmtReq m t n = line at hfs C1 ⊢
  obtain ⟨af, cf, rfl, q1, q2, q3, q4⟩ := id Hf
  have H0 := Lib.hid (heap_alloc_new w (.cells #[.string m, .string t, .int .i64 n, .slice af x.length cf, .bool fr, vb] 28))
  go_enter Tryd.func6, Tryd.ntmps6
  go_wp2_with fail
  go_region_held3 (fun w' => w'.cell? ⟨w.heap.size, 0, none⟩ = some (.string m) ∧ w'.cell? ⟨w.heap.size, 1, none⟩ = some (.string t) ∧ w'.cell? ⟨w.heap.size, 2, none⟩ = some (.int .i64 n) ∧ w'.cell? ⟨w.heap.size, 3, none⟩ = some (.slice af x.length cf) ∧ w'.cell? ⟨w.heap.size, 4, none⟩ = some (.bool fr) ∧ w'.cell? ⟨w.heap.size, 5, none⟩ = some vb) (first | exact hc3 | go_keep) (first
    | (go_at_call 13; refine (C1.out _ (hE.below HB0.drew)).mono ?_; rintro e w3 ⟨rfl, hb3⟩; have hb4 := of_drew hb3; obtain ⟨hc3, -, -⟩ := row6 (row_below H0.out hb4); have HB3 := Below.self_trans HB0 hb4; have hf3 := Hf.below HB3)
    | (go_at_call 12; refine (hwrite_calls _ x line _ hf3 hx (by omega)).mono ?_; rintro e w5 ⟨⟨v, rfl, hr⟩, hb5⟩; have hb6 := Below.self_trans hb4 hb5; obtain ⟨hc3, -, -⟩ := row6 (row_below H0.out hb6); have HB5 := Below.self_trans HB3 hb5))
  all_goals
    go_wp2
    go_ret
    exact ⟨⟨_, rfl, hr⟩, HB5⟩

end Go.Proofs.YtglljdhhgmgbgaaDoor

/-! ### The heads that the reference writes -/
namespace Go.Proofs.YtglljdhhgmgbgaaDoor
open Go.RowKit Go.Own
set_option linter.unusedVariables false
set_option maxHeartbeats 2000000

/-- bytes that may be appended to, or nil -/
def OutY (B : Nat) (w : World) (v : Value) (l : List UInt8) : Prop := (l = [] ∧ v = .slice none 0 0) ∨ MutY B w v l
theorem OutY.rd {B : Nat} {w : World} {v : Value} {l : List UInt8} (h : OutY B w v l) : RdB w v l := by
  rcases h with ⟨rfl, rfl⟩ | h
  · exact RdB_nil _
  · exact h.rd





end Go.Proofs.YtglljdhhgmgbgaaDoor