/- The lines of a head: lines of the reference. -/
import Derived.Test.YtglljdhhgmgbgaaGreatDoorHeadL
namespace Go.Proofs.YtglljdhhgmgbgaaGreatDoor
open Go.RowKit Go.Own
set_option linter.unusedVariables false
set_option maxHeartbeats 2000000

def RLinesV (q : Option (List ByteArray)) (e : Ending) (w' : World) : Prop := match q with
  | some l => ∃ v, e = .returned (.tuple #[v, .int .i64 0]) ∧ RdS w' v l
  | none => e = .returned (.tuple #[.slice none 0 0, .int .i64 2])
theorem RLinesV_none {b : List UInt8} {w' : World} (h : linesP b = none) : RLinesV (linesS b) (.returned (.tuple #[.slice none 0 0, .int .i64 2])) w' := by rw [linesS_of h]; rfl
theorem endP_short {b : List UInt8} (h : b.length < 4) : endP b ≠ b.length := by
  rcases endP_cases b with ⟨h2, -⟩ | ⟨i, h2, -, h3⟩ <;> omega
theorem neq_int {x y : Int} (h : x ≠ y) : (x != y) = true := bne_iff_ne.2 h
theorem eq_int {x y : Int} (h : x = y) : (x != y) = false := bne_eq_false_iff_eq.2 h

theorem ne13 {x : UInt8} (h : x ≠ 13) : ((x.toNat : Int) == 13) = false := beq_eq_false_iff_ne.2 fun e => h (UInt8.toNat_inj.1 (by have : (13 : UInt8).toNat = 13 := rfl; omega))
theorem ne10 {x : UInt8} (h : x ≠ 10) : ((x.toNat : Int) == 10) = false := beq_eq_false_iff_ne.2 fun e => h (UInt8.toNat_inj.1 (by have : (10 : UInt8).toNat = 10 := rfl; omega))
set_option maxRecDepth 100000 in
theorem rlines_calls (v : Value) (b : List UInt8) (w : World) (H : RdB w v b) (hb : b.length ≤ 2000000) :
    Calls Tryz.prog 44 #[v] w fun e w' => RLinesV (linesS b) e w' ∧ Below w.heap.size w w' := by
  have HE := Lib.hid (rend_calls v b w H (by omega))
  have HNO := Lib.hid (fun h w' => RLinesV_none (b := b) (w' := w') (linesP_end h))
  have HD := Lib.hid (fun h w' => RLinesV_none (b := b) (w' := w') (dirty_end h))
  obtain ⟨a, cap, rfl, h1, h2, h3, h4⟩ := H
  have hcap : cap ≤ 9223372036854775807 := by simpa [maxLen] using h2
  clear h2 h3
  by_cases hs4 : b.length < 4
  · have HR := Lib.hid (HNO.out (endP_short hs4))
    have hs : (b.length : Int) < 4 := by omega
    clear HE HNO HD h4 hs4
    go_enter Tryz.func44, Tryz.ntmps44
    go_wp2
    exact bodyPost_ret (v := .tuple #[.slice none 0 0, .int .i64 2]) (by simp [results, Tryz.results44, go_sem]) rfl ⟨HR.out _, Below.refl _ _⟩
  · have hs : ¬ (b.length : Int) < 4 := by omega
    by_cases he : endP b = b.length
    · have hne := eq_int he
      have HFIN := Lib.hid (fun f out h => LineAt.fin (b := b) (f := f) (out := out) h he)
      clear HNO he hs4
      generalize endP b = E at HE hne
      go_enter Tryz.func44, Tryz.ntmps44
      go_wp2_with fail
      refine HE.out.mono ?_
      rintro e w1 ⟨rfl, hb1⟩
      clear HE
      go_wp2
      go_loopw [4, 5, 6] (fun v f i wr => ∃ (k p : Nat) (done : List ByteArray), k ≤ b.length ∧ p ≤ k ∧ done.length ≤ k ∧ i = .int .i64 k ∧ f = .int .i64 p ∧ OwnS w.heap.size wr v done ∧ Below w.heap.size w wr ∧ Hid (LineAt b k p (done.map bl))) (fun _ _ i _ => b.length - (intOf i).toNat)
      case atStart => exact ⟨0, 0, [], Nat.zero_le _, Nat.le_refl _, Nat.le_refl _, rfl, rfl, World.ownsRow_nil _ _ _ _, hb1, LineAt.start b⟩
      case round =>
        obtain ⟨k, p, done, hk, hpk, hdk, rfl, rfl, hown, hB, HL⟩ := hrel
        obtain ⟨a0, c0, rfl, hc1, hc2, hc3⟩ := owned_slice hown
        have hroom : (done.length + 1) * 16 ≤ 140737488355328 := by omega
        have hroom2 : done.length + 1 ≤ maxLen := by simp [maxLen]; omega
        have HC := Lib.hid (h4.below hB)
        by_cases hlt : k < b.length
        · have hki : (k : Int) < (b.length : Int) := by omega
          obtain ⟨g, off, rfl, hcell⟩ := HC.out.byte k hlt
          obtain ⟨x, hx⟩ : ∃ x, b[k] = x := ⟨_, rfl⟩
          rw [hx] at hcell
          clear hc1 hc2 hc3
          by_cases h13 : x = 13
          · subst h13
            by_cases hend : k + 1 = b.length
            · have e1 : ((k : Int) + 1 == (b.length : Int)) = true := by rw [beq_iff_eq]; omega
              have HR := Lib.hid (HD.out (HL.out.cr hlt hx (by rw [hend, List.getElem?_eq_none (Nat.le_refl _)]; simp)))
              clear HL HC hend h4 HFIN HD hown hroom hroom2 hx
              go_wp2
              exact bodyPost_ret (v := .tuple #[.slice none 0 0, .int .i64 2]) (by simp [results, Tryz.results44, go_sem]) rfl ⟨HR.out _, hB⟩
            · have hlt2 : k + 1 < b.length := by omega
              have e1 : ((k : Int) + 1 == (b.length : Int)) = false := by rw [beq_eq_false_iff_ne]; omega
              have hki2 : (k : Int) + 1 < (b.length : Int) := by omega
              obtain ⟨g', off', ha', hcell2⟩ := HC.out.byte (k + 1) hlt2
              injection ha' with ha'
              injection ha' with e2 e3
              subst e2 e3
              by_cases h10 : b[k + 1] = 10
              · rw [h10] at hcell2
                have HR := Lib.hid (HL.out.skip hlt (Or.inr (by rw [List.getElem?_eq_getElem hlt2, h10])) (by rw [hx]; decide))
                clear HL HC hend h4 HD hx h10
                go_wp2
                go_roundw
                case rel => exact ⟨k + 1, p, done, by omega, by omega, by omega, by go_num, rfl, hown, hB, HR⟩
                case measure => simp [intOf]; omega
              · have HR := Lib.hid (HD.out (HL.out.cr hlt hx (by rw [List.getElem?_eq_getElem hlt2]; intro h; exact h10 (Option.some.inj h))))
                obtain ⟨y, hy⟩ : ∃ y, b[k + 1] = y := ⟨_, rfl⟩
                rw [hy] at hcell2 h10
                have e2 : ((y.toNat : Int) != 10) = true := neq_int (beq_eq_false_iff_ne.1 (ne10 h10))
                clear HL HC hend h4 HD hx h10 hy HFIN hown hroom hroom2
                go_wp2
                exact bodyPost_ret (v := .tuple #[.slice none 0 0, .int .i64 2]) (by simp [results, Tryz.results44, go_sem]) rfl ⟨HR.out _, hB⟩
          · have n13 : ((x.toNat : Int) == 13) = false := ne13 h13
            by_cases h10 : x = 10
            · subst h10
              cases k with
              | zero =>
                have HR := Lib.hid (HD.out (HL.out.lf hlt hx (Or.inl rfl)))
                have hcell : wr.cell? ⟨g, off, none⟩ = some (.int .u8 10) := hcell
                have e0 : (((0 : Nat) : Int) == 0) = true := rfl
                clear HL HC h4 HD hx HFIN hown hroom hroom2 h13
                go_wp2
                exact bodyPost_ret (v := .tuple #[.slice none 0 0, .int .i64 2]) (by simp [results, Tryz.results44, go_sem]) rfl ⟨HR.out _, hB⟩
              | succ j =>
                have hjl : j < b.length := by omega
                have ej : ((j : Int) + 1 == 0) = false := beq_eq_false_iff_ne.2 (by omega)
                obtain ⟨g', off', ha', hcell2⟩ := HC.out.byte j hjl
                injection ha' with ha'
                injection ha' with e2 e3
                subst e2 e3
                by_cases hp13 : b[j] = 13
                · rw [hp13] at hcell2
                  obtain ⟨hpj, HR⟩ := HL.out.line hlt hx (by rw [Nat.add_sub_cancel, List.getElem?_eq_getElem hjl, hp13]) (by omega)
                  rw [Nat.add_sub_cancel] at hpj HR
                  have HR := Lib.hid HR
                  have hr := RdC_sub HC.out p (j - p)
                  have hbl : ((bytesV b).drop p).take (j - p) = bytesV ((b.take j).drop p) := by
                    rw [List.drop_take]
                    simp [bytesV, List.map_drop, List.map_take]
                  rw [hbl, Option.map_some, Addr.add_lit] at hr
                  have hcv := conv_bytes (P := Tryz.prog) (n := j - p) (cap := cap - p) Tryz.underlying23 Tryz.underlying5 Tryz.underlying9 (by rw [List.length_drop, List.length_take]; omega) hr
                  have hbs : bl (⟨((b.take j).drop p).toArray⟩ : ByteArray) = (b.take j).drop p := rfl
                  rw [← hbs] at HR
                  have hpc : ¬ cap = p := by omega
                  have hpj2 : (p : Int) ≤ (j : Int) := by omega
                  have hjc : (j : Int) ≤ (cap : Int) := by omega
                  clear HL HC h4 HD hx h13 hp13 hr hbl hbs
                  generalize (⟨((b.take j).drop p).toArray⟩ : ByteArray) = T at hcv HR
                  go_wp2_with (at_builtin; refine wpList_append_one rfl (.tmp 67) (.tmp 74) 56 rfl w hB 9 (.string .empty) 1 16 Tryz.underlying56 info_str rfl Nat.one_pos a0 done.length c0 (strsV done) [.string T] rfl (one_cell_str _) rfl hown rfl hroom hroom2 ?_; intro a1 c1 w2 hb2 hown2 hg2 _)
                  go_roundw
                  case rel => exact ⟨j + 1 + 1, j + 1 + 1, done ++ [T], by omega, by omega, by simp; omega, by go_num, by go_num, OwnS.snoc hown2, hb2, Lib.hid (by rw [List.map_append]; exact HR.out)⟩
                  case measure => simp [intOf]; omega
                · have HR := Lib.hid (HD.out (HL.out.lf hlt hx (Or.inr (by rw [Nat.add_sub_cancel, List.getElem?_eq_getElem hjl]; intro h; exact hp13 (Option.some.inj h)))))
                  obtain ⟨y, hy⟩ : ∃ y, b[j] = y := ⟨_, rfl⟩
                  rw [hy] at hcell2 hp13
                  have e2 : ((y.toNat : Int) != 13) = true := neq_int (beq_eq_false_iff_ne.1 (ne13 hp13))
                  clear HL HC h4 HD hx h13 hp13 hy HFIN hown hroom hroom2
                  go_wp2
                  exact bodyPost_ret (v := .tuple #[.slice none 0 0, .int .i64 2]) (by simp [results, Tryz.results44, go_sem]) rfl ⟨HR.out _, hB⟩
            · have n10 : ((x.toNat : Int) == 10) = false := ne10 h10
              have HR := Lib.hid (HL.out.skip hlt (Or.inl (by rw [hx]; exact h13)) (by rw [hx]; exact h10))
              clear HL HC h4 HD hx h10 h13
              go_wp2
              go_roundw
              case rel => exact ⟨k + 1, p, done, by omega, by omega, by omega, by go_num, rfl, hown, hB, HR⟩
              case measure => simp [intOf]; omega
        · have hki : ¬ (k : Int) < (b.length : Int) := by omega
          obtain rfl : k = b.length := by omega
          obtain ⟨q1, q2⟩ := HFIN.out p (done.map bl) HL.out
          rw [List.length_map] at q1 q2
          have HQ := Lib.hid (show linesS b = some (done.take (done.length - 1)) by
            unfold linesS
            rw [q1, Option.map_some, ← List.map_take, map_bs_bl])
          have HF := Lib.hid (show ∀ V w', RdS w' V (done.take (done.length - 1)) → RLinesV (linesS b) (.returned (.tuple #[V, .int .i64 0])) w' from fun V w' hV => by rw [HQ.out]; exact ⟨V, rfl, hV⟩)
          obtain ⟨_, _, e1, -, -, -, hrd⟩ := hown.rd
          cases e1
          have HRD := Lib.hid hrd
          have HCS := Lib.hid (show done.length ≤ c0 ∧ c0 ≤ maxLen ∧ (a0 = none → c0 = 0) from ⟨hc1, hc2, hc3⟩)
          have hc0 : ¬ c0 = 0 := by omega
          have hci : (done.length : Int) ≤ (c0 : Int) := by omega
          have hd2 : (2 : Int) ≤ (done.length : Int) := by omega
          clear q1 HL HC h4 HD HQ hown hrd HFIN hc1 hc2 hc3
          go_wp2
          exact bodyPost_ret (v := .tuple #[.slice a0 (done.length - 1) c0, .int .i64 0]) (by simp [results, Tryz.results44, go_sem]) rfl ⟨HF.out _ _ (by
            obtain ⟨g1, g2, g3⟩ := HCS.out
            have := Rd_take HRD.out (done.length - 1) g2 g3 (by omega)
            have e : (strsV done).take (done.length - 1) = strsV (done.take (done.length - 1)) := by simp [strsV, List.map_take]
            rw [e] at this
            have e2 : (done.take (done.length - 1)).length = done.length - 1 := by rw [List.length_take]; omega
            unfold RdS
            rw [e2]; exact this), hB⟩
    · have hne := neq_int he
      have HR := Lib.hid (HNO.out he)
      clear HNO HD h4 hs4 he
      generalize endP b = E at HE hne
      go_enter Tryz.func44, Tryz.ntmps44
      go_wp2_with fail
      refine HE.out.mono ?_
      rintro e w1 ⟨rfl, hb1⟩
      go_wp2
      exact bodyPost_ret (v := .tuple #[.slice none 0 0, .int .i64 2]) (by simp [results, Tryz.results44, go_sem]) rfl ⟨HR.out _, hb1⟩
end Go.Proofs.YtglljdhhgmgbgaaGreatDoor
