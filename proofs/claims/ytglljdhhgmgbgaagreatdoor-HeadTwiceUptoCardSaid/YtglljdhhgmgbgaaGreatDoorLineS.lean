/- Status lines: ParseStatus of the package and of the reference. -/
import Derived.Test.YtglljdhhgmgbgaaGreatDoorLineR
import Derived.Test.YtglljdhhgmgbgaaGreatDoorPA
namespace Go.Proofs.YtglljdhhgmgbgaaGreatDoor
open Go.RowKit Go.Own
set_option linter.unusedVariables false
set_option maxHeartbeats 2000000

/-- a reply of a line -/
def repV (q : Option (Int × ByteArray × Int)) : Value := match q with
  | some (n, r, m) => .agg #[.int .i64 n, .string r, .int .i64 m, .slice none 0 0, .slice none 0 0]
  | none => .agg #[.int .i64 0, .string .empty, .int .i64 0, .slice none 0 0, .slice none 0 0]
def stErr (q : Option (Int × ByteArray × Int)) : Int := if q.isSome then 0 else 2

theorem parseSt_walk (s f r : ByteArray) (b : Bool) (v : Option (Int × ByteArray × Int)) (w : World) (hE : Env w) (HC : Hid (∀ w, Env w → Calls Tryz.prog 81 #[.string s, .string ⟨#[32]⟩] w fun e w' => e = .returned (.tuple #[.string f, .string r, .bool b]) ∧ Below w.heap.size w w'))
    (hf : f.size ≤ maxLen) (hr : r.size ≤ maxLen) (HV : Hid (v = if b = true ∧ (minorB f).2 = 0 then stRest r (minorB f).1 else none)) :
    Calls Tryz.prog 48 #[.string s] w fun e w' => e = .returned (.tuple #[repV v, .int .i64 (stErr v)]) ∧ Below w.heap.size w w' := by
  have HM := Lib.hid (fun w => minor_calls f w hf)
  obtain ⟨⟨n, k⟩, hnk⟩ : ∃ p, minorB f = p := ⟨_, rfl⟩
  rw [hnk] at HM HV
  clear hnk
  simp only at HM HV
  cases b with
  | false =>
    have HR := Lib.hid (show v = none by rw [HV.out]; simp)
    clear HV
    go_enter Tryz.func48, Tryz.ntmps48
    go_wp2_with fail
    refine (HC.out _ (hE.below ((Below.refl _ _).alloc (Nat.le_refl _) _))).mono ?_
    rintro e w1 ⟨rfl, hb1⟩
    have HA := Lib.hid (row_new hb1)
    have HB := kept_below hb1
    clear hb1
    go_wp2_with fail
    refine (HM.out _).mono ?_
    rintro e w2 ⟨rfl, hb2⟩
    have HA := Lib.hid (row_below HA.out hb2)
    have HB := Below.self_trans HB hb2
    clear hb2
    obtain ⟨⟨c0, c1, c2, c3, c4⟩, ⟨f0, f1, f2, f3, f4⟩, hz⟩ := row5 HA.out
    go_wp2
    exact fin5 (fun x => .tuple #[x, .int .i64 2]) HA.out HB (Nat.le_refl _) (fun w2 c0 c1 c2 c3 c4 => by simp [results, Tryz.results48, go_sem, c0, c1, c2, c3, c4]) rfl (fun w2 hb => ⟨by rw [HR.out]; rfl, hb⟩)
  | true =>
    by_cases hk : k = 0
    · subst hk
      have HW := Lib.hid (show v = stRest r n by rw [HV.out]; simp)
      clear HV
      by_cases h3 : r.size < 3
      · have HR := Lib.hid (show v = none by rw [HW.out]; exact stRest_short h3)
        have i3 : (r.size : Int) < 3 := by omega
        clear HW
        go_enter Tryz.func48, Tryz.ntmps48
        go_wp2_with fail
        refine (HC.out _ (hE.below ((Below.refl _ _).alloc (Nat.le_refl _) _))).mono ?_
        rintro e w1 ⟨rfl, hb1⟩
        have HA := Lib.hid (row_new hb1)
        have HB := kept_below hb1
        clear hb1
        go_wp2_with fail
        refine (HM.out _).mono ?_
        rintro e w2 ⟨rfl, hb2⟩
        have HA := Lib.hid (row_below HA.out hb2)
        have HB := Below.self_trans HB hb2
        clear hb2
        obtain ⟨⟨c0, c1, c2, c3, c4⟩, ⟨f0, f1, f2, f3, f4⟩, hz⟩ := row5 HA.out
        go_wp2
        exact fin5 (fun x => .tuple #[x, .int .i64 2]) HA.out HB (Nat.le_refl _) (fun w2 c0 c1 c2 c3 c4 => by simp [results, Tryz.results48, go_sem, c0, c1, c2, c3, c4]) rfl (fun w2 hb => ⟨by rw [HR.out]; rfl, hb⟩)
      · have i3 : ¬ (r.size : Int) < 3 := by omega
        have j3 : 3 ≤ r.size := by omega
        have k3 : (3 : Int) ≤ (r.size : Int) := by omega
        have z3 : (r.extract 0 3).size ≤ maxLen := by rw [ByteArray.size_extract]; simp [maxLen]; omega
        have HN := Lib.hid (fun w => parseDecimal_calls (r.extract 0 3) 599 w z3 (by omega) (by omega))
        have W1 := Lib.hid (fun h => stRest_num (r := r) (n := n) h)
        have W2 := Lib.hid (fun h => stRest_low (r := r) (n := n) h)
        have W3 := Lib.hid (fun h => stRest_vis (r := r) (n := n) h)
        have W4 := Lib.hid (fun h2 h3 h4 h5 => stRest_ok (r := r) (n := n) j3 h2 h3 h4 h5)
        clear z3
        obtain ⟨⟨x, q⟩, hxq⟩ : ∃ p, parseN 10 599 (bl (r.extract 0 3)) = p := ⟨_, rfl⟩
        rw [hxq] at HN W1 W2 W4
        clear hxq
        simp only at HN W1 W2 W4
        by_cases h4 : r.size = 3
        · have i4 : ¬ (3 : Int) < (r.size : Int) := by omega
          have hu : reasonR r = .empty := by unfold reasonR; rw [if_neg (by omega)]
          by_cases hq : q = 0
          · subst hq
            by_cases hx : x < 100
            · have HR := Lib.hid (show v = none by rw [HW.out]; exact W2.out hx)
              clear W1 W2 W3 W4
              go_enter Tryz.func48, Tryz.ntmps48
              go_wp2_with fail
              refine (HC.out _ (hE.below ((Below.refl _ _).alloc (Nat.le_refl _) _))).mono ?_
              rintro e w1 ⟨rfl, hb1⟩
              have HA := Lib.hid (row_new hb1)
              have HB := kept_below hb1
              clear hb1
              go_wp2_with fail
              refine (HM.out _).mono ?_
              rintro e w2 ⟨rfl, hb2⟩
              have HA := Lib.hid (row_below HA.out hb2)
              have HB := Below.self_trans HB hb2
              clear hb2

              go_wp2_with fail
              refine (HN.out _).mono ?_
              rintro e w3 ⟨rfl, rfl⟩
              obtain ⟨⟨c0, c1, c2, c3, c4⟩, ⟨f0, f1, f2, f3, f4⟩, hz⟩ := row5 HA.out
              go_wp2
              exact fin5 (fun x => .tuple #[x, .int .i64 2]) HA.out HB (Nat.le_refl _) (fun w2 c0 c1 c2 c3 c4 => by simp [results, Tryz.results48, go_sem, c0, c1, c2, c3, c4]) rfl (fun w2 hb => ⟨by rw [HR.out]; rfl, hb⟩)
            · have HT := Lib.hid (fun w => text_calls .empty w (by decide))
              cases hvis : visible (bl .empty) with
              | true =>
                have HR := Lib.hid (show v = some (x, .empty, n) by rw [HW.out, W4.out (Or.inl h4) rfl hx (by rw [hu]; exact hvis), hu])
                rw [hvis] at HT
                clear W1 W2 W3 W4 hvis hu
                go_enter Tryz.func48, Tryz.ntmps48
                go_wp2_with fail
                refine (HC.out _ (hE.below ((Below.refl _ _).alloc (Nat.le_refl _) _))).mono ?_
                rintro e w1 ⟨rfl, hb1⟩
                have HA := Lib.hid (row_new hb1)
                have HB := kept_below hb1
                clear hb1
                go_wp2_with fail
                refine (HM.out _).mono ?_
                rintro e w2 ⟨rfl, hb2⟩
                have HA := Lib.hid (row_below HA.out hb2)
                have HB := Below.self_trans HB hb2
                clear hb2

                go_wp2_with fail
                refine (HN.out _).mono ?_
                rintro e w3 ⟨rfl, rfl⟩
                go_wp2_with fail
                refine (HT.out _).mono ?_
                rintro e w4 ⟨rfl, rfl⟩
                obtain ⟨⟨c0, c1, c2, c3, c4⟩, ⟨f0, f1, f2, f3, f4⟩, hz⟩ := row5 HA.out
                go_wp2
                exact fin5 (fun x => .tuple #[x, .int .i64 0]) HA.out HB (Nat.le_refl _) (fun w2 c0 c1 c2 c3 c4 => by simp [results, Tryz.results48, go_sem, c0, c1, c2, c3, c4]) rfl (fun w2 hb => ⟨by rw [HR.out]; rfl, hb⟩)
              | false =>
                have HR := Lib.hid (show v = none by rw [HW.out]; exact W3.out (by rw [hu]; exact hvis))
                rw [hvis] at HT
                clear W1 W2 W3 W4 hvis hu
                go_enter Tryz.func48, Tryz.ntmps48
                go_wp2_with fail
                refine (HC.out _ (hE.below ((Below.refl _ _).alloc (Nat.le_refl _) _))).mono ?_
                rintro e w1 ⟨rfl, hb1⟩
                have HA := Lib.hid (row_new hb1)
                have HB := kept_below hb1
                clear hb1
                go_wp2_with fail
                refine (HM.out _).mono ?_
                rintro e w2 ⟨rfl, hb2⟩
                have HA := Lib.hid (row_below HA.out hb2)
                have HB := Below.self_trans HB hb2
                clear hb2

                go_wp2_with fail
                refine (HN.out _).mono ?_
                rintro e w3 ⟨rfl, rfl⟩
                go_wp2_with fail
                refine (HT.out _).mono ?_
                rintro e w4 ⟨rfl, rfl⟩
                obtain ⟨⟨c0, c1, c2, c3, c4⟩, ⟨f0, f1, f2, f3, f4⟩, hz⟩ := row5 HA.out
                go_wp2
                exact fin5 (fun x => .tuple #[x, .int .i64 2]) HA.out HB (Nat.le_refl _) (fun w2 c0 c1 c2 c3 c4 => by simp [results, Tryz.results48, go_sem, c0, c1, c2, c3, c4]) rfl (fun w2 hb => ⟨by rw [HR.out]; rfl, hb⟩)
          · have HR := Lib.hid (show v = none by rw [HW.out]; exact W1.out hq)
            have q2 : (q == 0) = false := by simpa using hq
            have q3 : (q != 0) = true := by simpa using hq
            clear W1 W2 W3 W4
            go_enter Tryz.func48, Tryz.ntmps48
            go_wp2_with fail
            refine (HC.out _ (hE.below ((Below.refl _ _).alloc (Nat.le_refl _) _))).mono ?_
            rintro e w1 ⟨rfl, hb1⟩
            have HA := Lib.hid (row_new hb1)
            have HB := kept_below hb1
            clear hb1
            go_wp2_with fail
            refine (HM.out _).mono ?_
            rintro e w2 ⟨rfl, hb2⟩
            have HA := Lib.hid (row_below HA.out hb2)
            have HB := Below.self_trans HB hb2
            clear hb2

            go_wp2_with fail
            refine (HN.out _).mono ?_
            rintro e w3 ⟨rfl, rfl⟩
            obtain ⟨⟨c0, c1, c2, c3, c4⟩, ⟨f0, f1, f2, f3, f4⟩, hz⟩ := row5 HA.out
            go_wp2
            exact fin5 (fun x => .tuple #[x, .int .i64 2]) HA.out HB (Nat.le_refl _) (fun w2 c0 c1 c2 c3 c4 => by simp [results, Tryz.results48, go_sem, c0, c1, c2, c3, c4]) rfl (fun w2 hb => ⟨by rw [HR.out]; rfl, hb⟩)
        · have i4 : (3 : Int) < (r.size : Int) := by omega
          have j4 : 3 < r.size := by omega
          obtain ⟨y, hy, hsy⟩ := byte_split r 3 j4
          by_cases h5 : y = 32
          · subst h5
            have hu : reasonR r = r.extract 4 r.size := by unfold reasonR; rw [if_pos j4]
            have zu : (r.extract 4 r.size).size ≤ maxLen := by rw [ByteArray.size_extract]; omega
            have k4 : (4 : Int) ≤ (r.size : Int) := by omega
            have l4 : 4 ≤ r.size := by omega
            by_cases hq : q = 0
            · subst hq
              by_cases hx : x < 100
              · have HR := Lib.hid (show v = none by rw [HW.out]; exact W2.out hx)
                clear W1 W2 W3 W4
                go_enter Tryz.func48, Tryz.ntmps48
                go_wp2_with fail
                refine (HC.out _ (hE.below ((Below.refl _ _).alloc (Nat.le_refl _) _))).mono ?_
                rintro e w1 ⟨rfl, hb1⟩
                have HA := Lib.hid (row_new hb1)
                have HB := kept_below hb1
                clear hb1
                go_wp2_with fail
                refine (HM.out _).mono ?_
                rintro e w2 ⟨rfl, hb2⟩
                have HA := Lib.hid (row_below HA.out hb2)
                have HB := Below.self_trans HB hb2
                clear hb2

                go_wp2_with fail
                refine (HN.out _).mono ?_
                rintro e w3 ⟨rfl, rfl⟩
                obtain ⟨⟨c0, c1, c2, c3, c4⟩, ⟨f0, f1, f2, f3, f4⟩, hz⟩ := row5 HA.out
                go_wp2
                exact fin5 (fun x => .tuple #[x, .int .i64 2]) HA.out HB (Nat.le_refl _) (fun w2 c0 c1 c2 c3 c4 => by simp [results, Tryz.results48, go_sem, c0, c1, c2, c3, c4]) rfl (fun w2 hb => ⟨by rw [HR.out]; rfl, hb⟩)
              · have HT := Lib.hid (fun w => text_calls (r.extract 4 r.size) w zu)
                cases hvis : visible (bl (r.extract 4 r.size)) with
                | true =>
                  have HR := Lib.hid (show v = some (x, (r.extract 4 r.size), n) by rw [HW.out, W4.out (Or.inr ⟨j4, hy⟩) rfl hx (by rw [hu]; exact hvis), hu])
                  rw [hvis] at HT
                  clear W1 W2 W3 W4 hvis hu
                  go_enter Tryz.func48, Tryz.ntmps48
                  go_wp2_with fail
                  refine (HC.out _ (hE.below ((Below.refl _ _).alloc (Nat.le_refl _) _))).mono ?_
                  rintro e w1 ⟨rfl, hb1⟩
                  have HA := Lib.hid (row_new hb1)
                  have HB := kept_below hb1
                  clear hb1
                  go_wp2_with fail
                  refine (HM.out _).mono ?_
                  rintro e w2 ⟨rfl, hb2⟩
                  have HA := Lib.hid (row_below HA.out hb2)
                  have HB := Below.self_trans HB hb2
                  clear hb2

                  go_wp2_with fail
                  refine (HN.out _).mono ?_
                  rintro e w3 ⟨rfl, rfl⟩
                  go_wp2_with fail
                  refine (HT.out _).mono ?_
                  rintro e w4 ⟨rfl, rfl⟩
                  obtain ⟨⟨c0, c1, c2, c3, c4⟩, ⟨f0, f1, f2, f3, f4⟩, hz⟩ := row5 HA.out
                  go_wp2
                  exact fin5 (fun x => .tuple #[x, .int .i64 0]) HA.out HB (Nat.le_refl _) (fun w2 c0 c1 c2 c3 c4 => by simp [results, Tryz.results48, go_sem, c0, c1, c2, c3, c4]) rfl (fun w2 hb => ⟨by rw [HR.out]; rfl, hb⟩)
                | false =>
                  have HR := Lib.hid (show v = none by rw [HW.out]; exact W3.out (by rw [hu]; exact hvis))
                  rw [hvis] at HT
                  clear W1 W2 W3 W4 hvis hu
                  go_enter Tryz.func48, Tryz.ntmps48
                  go_wp2_with fail
                  refine (HC.out _ (hE.below ((Below.refl _ _).alloc (Nat.le_refl _) _))).mono ?_
                  rintro e w1 ⟨rfl, hb1⟩
                  have HA := Lib.hid (row_new hb1)
                  have HB := kept_below hb1
                  clear hb1
                  go_wp2_with fail
                  refine (HM.out _).mono ?_
                  rintro e w2 ⟨rfl, hb2⟩
                  have HA := Lib.hid (row_below HA.out hb2)
                  have HB := Below.self_trans HB hb2
                  clear hb2

                  go_wp2_with fail
                  refine (HN.out _).mono ?_
                  rintro e w3 ⟨rfl, rfl⟩
                  go_wp2_with fail
                  refine (HT.out _).mono ?_
                  rintro e w4 ⟨rfl, rfl⟩
                  obtain ⟨⟨c0, c1, c2, c3, c4⟩, ⟨f0, f1, f2, f3, f4⟩, hz⟩ := row5 HA.out
                  go_wp2
                  exact fin5 (fun x => .tuple #[x, .int .i64 2]) HA.out HB (Nat.le_refl _) (fun w2 c0 c1 c2 c3 c4 => by simp [results, Tryz.results48, go_sem, c0, c1, c2, c3, c4]) rfl (fun w2 hb => ⟨by rw [HR.out]; rfl, hb⟩)
            · have HR := Lib.hid (show v = none by rw [HW.out]; exact W1.out hq)
              have q2 : (q == 0) = false := by simpa using hq
              have q3 : (q != 0) = true := by simpa using hq
              clear W1 W2 W3 W4
              go_enter Tryz.func48, Tryz.ntmps48
              go_wp2_with fail
              refine (HC.out _ (hE.below ((Below.refl _ _).alloc (Nat.le_refl _) _))).mono ?_
              rintro e w1 ⟨rfl, hb1⟩
              have HA := Lib.hid (row_new hb1)
              have HB := kept_below hb1
              clear hb1
              go_wp2_with fail
              refine (HM.out _).mono ?_
              rintro e w2 ⟨rfl, hb2⟩
              have HA := Lib.hid (row_below HA.out hb2)
              have HB := Below.self_trans HB hb2
              clear hb2

              go_wp2_with fail
              refine (HN.out _).mono ?_
              rintro e w3 ⟨rfl, rfl⟩
              obtain ⟨⟨c0, c1, c2, c3, c4⟩, ⟨f0, f1, f2, f3, f4⟩, hz⟩ := row5 HA.out
              go_wp2
              exact fin5 (fun x => .tuple #[x, .int .i64 2]) HA.out HB (Nat.le_refl _) (fun w2 c0 c1 c2 c3 c4 => by simp [results, Tryz.results48, go_sem, c0, c1, c2, c3, c4]) rfl (fun w2 hb => ⟨by rw [HR.out]; rfl, hb⟩)
          · have HR := Lib.hid (show v = none by rw [HW.out]; exact stRest_sp j4 (by rw [hy]; exact h5))
            have b5 : ((y.toNat : Int) == 32) = false := by
              rw [beq_eq_false_iff_ne]; intro e; apply h5; exact UInt8.toNat_inj.1 (by have : (32 : UInt8).toNat = 32 := rfl; omega)
            have b6 : ((y.toNat : Int) != 32) = true := by rw [bne, b5]; rfl
            clear W1 W2 W3 W4 hy
            go_enter Tryz.func48, Tryz.ntmps48
            go_wp2_with fail
            refine (HC.out _ (hE.below ((Below.refl _ _).alloc (Nat.le_refl _) _))).mono ?_
            rintro e w1 ⟨rfl, hb1⟩
            have HA := Lib.hid (row_new hb1)
            have HB := kept_below hb1
            clear hb1
            go_wp2_with fail
            refine (HM.out _).mono ?_
            rintro e w2 ⟨rfl, hb2⟩
            have HA := Lib.hid (row_below HA.out hb2)
            have HB := Below.self_trans HB hb2
            clear hb2

            go_wp2_with fail
            refine (HN.out _).mono ?_
            rintro e w3 ⟨rfl, rfl⟩
            obtain ⟨⟨c0, c1, c2, c3, c4⟩, ⟨f0, f1, f2, f3, f4⟩, hz⟩ := row5 HA.out
            go_wp2
            exact fin5 (fun x => .tuple #[x, .int .i64 2]) HA.out HB (Nat.le_refl _) (fun w2 c0 c1 c2 c3 c4 => by simp [results, Tryz.results48, go_sem, c0, c1, c2, c3, c4]) rfl (fun w2 hb => ⟨by rw [HR.out]; rfl, hb⟩)
    · have HR := Lib.hid (show v = none by rw [HV.out]; simp [hk])
      have k2 : (k == 0) = false := by simpa using hk
      have k3 : (k != 0) = true := by simpa using hk
      clear HV
      go_enter Tryz.func48, Tryz.ntmps48
      go_wp2_with fail
      refine (HC.out _ (hE.below ((Below.refl _ _).alloc (Nat.le_refl _) _))).mono ?_
      rintro e w1 ⟨rfl, hb1⟩
      have HA := Lib.hid (row_new hb1)
      have HB := kept_below hb1
      clear hb1
      go_wp2_with fail
      refine (HM.out _).mono ?_
      rintro e w2 ⟨rfl, hb2⟩
      have HA := Lib.hid (row_below HA.out hb2)
      have HB := Below.self_trans HB hb2
      clear hb2
      obtain ⟨⟨c0, c1, c2, c3, c4⟩, ⟨f0, f1, f2, f3, f4⟩, hz⟩ := row5 HA.out
      go_wp2
      exact fin5 (fun x => .tuple #[x, .int .i64 2]) HA.out HB (Nat.le_refl _) (fun w2 c0 c1 c2 c3 c4 => by simp [results, Tryz.results48, go_sem, c0, c1, c2, c3, c4]) rfl (fun w2 hb => ⟨by rw [HR.out]; rfl, hb⟩)

theorem parseSt_calls (s : ByteArray) (w : World) (hE : Env w) (hs : s.size < 4294967281) :
    Calls Tryz.prog 48 #[.string s] w fun e w' => e = .returned (.tuple #[repV (parseSt s), .int .i64 (stErr (parseSt s))]) ∧ Below w.heap.size w w' := by
  refine parseSt_walk s _ _ _ (parseSt s) w hE (Lib.hid (fun w hE => strcut_calls 32 s w hE hs)) ?_ ?_ (Lib.hid ?_)
  · split
    · rw [bs_size]; have := before_len 32 (bl s); rw [bl_length] at this; simp [maxLen]; omega
    · simp [maxLen]; omega
  · split
    · rw [bs_size]; have := behind_len 32 (bl s); rw [bl_length] at this; simp [maxLen]; omega
    · decide
  · cases h : hasB (bl s) 32 with
    | false => simp; exact parseSt_no (stLine_no1 h)
    | true =>
      by_cases hm : (minorB (bs (before 32 (bl s)))).2 = 0
      · simp [hm]; exact parseSt_rest h hm
      · simp [hm]; exact parseSt_no (stLine_no2 hm)
end Go.Proofs.YtglljdhhgmgbgaaGreatDoor
