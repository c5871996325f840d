/- FieldWithout's core. -/
import Derived.Test.YtaggaldpigeamaaX06
namespace Go.Proofs.Ytaggaldpigeamaa
open Go.RowKit Go.Own
set_option linter.unusedVariables false
set_option maxHeartbeats 1000000

theorem withoutS_nil (l : List Fld) : withoutS l [] = l := by
  unfold withoutS inFold
  simp
theorem hasF_without {l : List Fld} {ns : List ByteArray} {n : ByteArray} (h : n ∈ ns) : hasF (withoutS l ns) n = false := by
  unfold hasF valuesS withoutS
  have e : (l.filter fun f => !inFold ns f.name).filter (fun f => foldB f.name n) = [] := by
    rw [List.filter_eq_nil_iff]
    intro f hf
    have h1 := (List.mem_filter.1 hf).2
    have h2 : inFold ns f.name = false := by simpa using h1
    unfold inFold at h2
    rw [List.any_eq_false] at h2
    have h3 := h2 n h
    rw [foldB_comm]
    exact h3
  rw [e]; rfl
theorem withoutS_sub {l : List Fld} {ns : List ByteArray} {f : Fld} (h : f ∈ withoutS l ns) : f ∈ l := (List.mem_filter.1 h).1
theorem withoutS_len (l : List Fld) (ns : List ByteArray) : (withoutS l ns).length ≤ l.length := List.length_filter_le _ _
theorem rds_new' (w : World) (l : List ByteArray) (cs : Array Value) (n k : Nat) (hcs : cs = (strsV l).toArray) (hn : n = w.heap.size) (hk : k = l.length) (hl : l.length ≤ 1000000) : RdS (w.alloc (.cells cs 9)) (.slice (some ⟨n, 0, none⟩) k k) l := by
  subst hcs hn hk
  exact ⟨_, _, rfl, Nat.le_refl _, by simp [maxLen]; omega, (fun h => nomatch h), RdC_new w (strsV l) 9 (0, 0)⟩
theorem rdi_nil (w : World) : RdI w (.slice none 0 0) [] := ⟨⟨none, 0, rfl, Nat.le_refl _, by simp [maxLen], fun _ => rfl, fun k hk => absurd hk (Nat.not_lt_zero _)⟩, by simp⟩

theorem fieldWithout_core (vr : Value) (raw : List Fld) (vm : Value) (more : List Fld) (vl : Value) (l : List Int) (s : ByteArray) (a b : Int) (wild : Bool) (w : World) (hE : Env w) (Hr : RdF w vr raw) (Hm : RdF w vm more) (Hl : RdI w vl l) (hM : fsize raw ≤ 1048576) (hM2 : fsize more ≤ 1048576) (hs : s.size ≤ 1048576) (ha : In64 a) (hb : In64 b) :
    Calls Try.prog 6 #[vr, vm, vl, .string s, .int .i64 a, .int .i64 b, .bool wild] w fun e w' => e = .returned (.bool true) ∧ Below w.heap.size w w' := by
  go_enter Try.func6, Try.ntmps6
  go_wp2_with fail
  refine (lawFields_calls vr raw vl l wild 1048576 _ Hr Hl hM (by omega)).mono ?_
  rintro e w1 ⟨⟨vx, x, rfl, Hx, hx30, hxs⟩, hb1⟩
  have Hm1 := Hm.below hb1
  clear Hr Hl hM Hm
  go_wp2_with fail
  refine (lawFields_calls vm more _ [] true 1048576 _ Hm1 (rdi_nil _) hM2 (by omega)).mono ?_
  rintro e w2 ⟨⟨vy, y, rfl, Hy, hy30, hys⟩, hb2⟩
  have HB2 := Below.self_trans hb1 hb2
  have Hx2 := Hx.below hb2
  clear Hx hb1 hb2 Hm1 hM2
  go_wp2_with fail
  refine (lawName_calls vx x s a 1048576 _ Hx2 hx30 hxs hs (by simp [maxLen]) ha).mono ?_
  rintro e w3 ⟨⟨n, rfl, hn⟩, hb3⟩
  have HB3 := Below.self_trans HB2 hb3
  have Hx3 := Hx2.below hb3
  have Hy3 := Hy.below hb3
  clear Hx2 Hy HB2 hb3
  go_wp2_with fail
  refine (lawName_calls vx x s b 1048576 _ Hx3 hx30 hxs hs (by simp [maxLen]) hb).mono ?_
  rintro e w4 ⟨⟨m, rfl, hm⟩, hb4⟩
  have HB4 := Below.self_trans HB3 hb4
  have Hx4 := Hx3.below hb4
  have Hy4 := Hy3.below hb4
  clear Hx3 Hy3 HB3 hb4
  have hn2 : n.size ≤ maxLen := Nat.le_trans hn (by simp [maxLen])
  have hm2 : m.size ≤ maxLen := Nat.le_trans hm (by simp [maxLen])
  have hf1 : ∀ f ∈ x, f.name.size ≤ maxLen := fun f hf => by have := fsize_mem hf; simp [maxLen]; omega
  have hx5 : x.length ≤ 1000000 := by omega
  have hy5 : y.length ≤ 1000000 := by omega
  have hnm : ∀ q ∈ [n, m], q.size ≤ maxLen := by
    intro q hq
    rcases List.mem_cons.1 hq with rfl | hq
    · exact hn2
    · rw [List.mem_singleton] at hq; rw [hq]; exact hm2
  have hyl := withoutS_len x [n, m]
  have hfw : ∀ f ∈ withoutS x [n, m], f.name.size ≤ maxLen := fun f hf => hf1 f (withoutS_sub hf)
  have Hhn := Lib.hid (hasF_without (l := x) (ns := [n, m]) (n := n) (by simp))
  have Hhm := Lib.hid (hasF_without (l := x) (ns := [n, m]) (n := m) (by simp))
  clear ha hb hs hn hm hxs hys hx30 hy30
  go_wp2_with fail
  refine (without_calls vx _ x [n, m] _ (Hx4.below ((Below.refl _ _).alloc (Nat.le_refl _) _)) (rds_new' w4 [n, m] _ _ _ rfl rfl rfl (by simp)) hx5 hnm hf1).mono ?_
  rintro e w5 ⟨⟨v5, rfl, ho5⟩, hb5⟩
  have hbw := kept_below hb5
  have HB5 := Below.self_trans HB4 hbw
  have Hx5 := Hx4.below hbw
  have Hy5 := Hy4.below hbw
  have hr5 := ho5.rd
  clear hb5 hbw ho5 Hx4 Hy4 HB4
  go_wp2_with fail
  refine (with_calls vx vy x y _ Hx5 Hy5 hx5 hy5).mono ?_
  rintro e w6 ⟨⟨v6, rfl, ho6⟩, hb6⟩
  have HB6 := Below.self_trans HB5 hb6
  have Hx6 := Hx5.below hb6
  have Hy6 := Hy5.below hb6
  have hr56 := hr5.below hb6
  have hr6 := ho6.rd
  clear hb6 ho6 Hx5 Hy5 HB5 hr5
  go_wp2_with fail
  refine (refWithout_calls vx _ x [n, m] _ (Hx6.below ((Below.refl _ _).alloc (Nat.le_refl _) _)) (rds_new' w6 [n, m] _ _ _ rfl rfl rfl (by simp)) hx5 hnm hf1).mono ?_
  rintro e w7 ⟨⟨v7, rfl, ho7⟩, hb7⟩
  have hbw := kept_below hb7
  have HB7 := Below.self_trans HB6 hbw
  have Hx7 := Hx6.below hbw
  have Hy7 := Hy6.below hbw
  have hr57 := hr56.below hbw
  have hr67 := hr6.below hbw
  have hr7 := ho7.rd
  clear hb7 hbw ho7 Hx6 Hy6 HB6 hr56 hr6
  go_wp2_with fail
  refine (sameF_calls v5 v7 _ _ hr57 hr7).mono ?_
  rintro e w8 ⟨rfl, hb8⟩
  have HB8 := Below.self_trans HB7 hb8
  have Hx8 := Hx7.below hb8
  have Hy8 := Hy7.below hb8
  have hr58 := hr57.below hb8
  have hr68 := hr67.below hb8
  clear hb8 Hx7 Hy7 HB7 hr57 hr67 hr7
  go_wp2_with fail
  refine (has_calls v5 _ n _ hr58 (by omega) hn2 hfw).mono ?_
  rintro e w9 ⟨rfl, hb9⟩
  rw [Hhn.out]
  have HB9 := Below.self_trans HB8 hb9
  have Hx9 := Hx8.below hb9
  have Hy9 := Hy8.below hb9
  have hr59 := hr58.below hb9
  have hr69 := hr68.below hb9
  clear hb9 Hx8 Hy8 HB8 hr58 hr68
  go_wp2_with fail
  refine (has_calls v5 _ m _ hr59 (by omega) hm2 hfw).mono ?_
  rintro e w10 ⟨rfl, hb10⟩
  rw [Hhm.out]
  have HB10 := Below.self_trans HB9 hb10
  have Hx10 := Hx9.below hb10
  have Hy10 := Hy9.below hb10
  have hr610 := hr69.below hb10
  clear hb10 Hx9 Hy9 HB9 hr59 hr69
  go_wp2_with fail
  refine (refWith_calls vx vy x y _ Hx10 Hy10 hx5 hy5).mono ?_
  rintro e w11 ⟨⟨v11, rfl, ho11⟩, hb11⟩
  have HB11 := Below.self_trans HB10 hb11
  have Hx11 := Hx10.below hb11
  have hr611 := hr610.below hb11
  have hr11 := ho11.rd
  clear hb11 ho11 Hx10 Hy10 HB10 hr610
  go_wp2_with fail
  refine (sameF_calls v6 v11 _ _ hr611 hr11).mono ?_
  rintro e w12 ⟨rfl, hb12⟩
  have HB12 := Below.self_trans HB11 hb12
  have Hx12 := Hx11.below hb12
  clear hb12 Hx11 HB11 hr611 hr11
  go_wp2_with fail
  refine (without_calls vx _ x [] _ Hx12 (RdS_nil _) hx5 (by simp) hf1).mono ?_
  rintro e w13 ⟨⟨v13, rfl, ho13⟩, hb13⟩
  rw [withoutS_nil] at ho13
  have HB13 := Below.self_trans HB12 hb13
  have Hx13 := Hx12.below hb13
  have hr13 := ho13.rd
  clear hb13 ho13 Hx12 HB12
  go_wp2_with fail
  refine (sameF_calls v13 vx _ _ hr13 Hx13).mono ?_
  rintro e w14 ⟨rfl, hb14⟩
  have HB14 := Below.self_trans HB13 hb14
  clear hb14 Hx13 HB13 hr13
  go_wp2_with fail
  refine (awake06_calls _ (hE.below HB14)).mono ?_
  rintro e w15 ⟨rfl, hb15⟩
  have HB15 := Below.self_trans HB14 hb15
  go_wp2
  go_ret
  exact ⟨rfl, HB15⟩
end Go.Proofs.Ytaggaldpigeamaa
