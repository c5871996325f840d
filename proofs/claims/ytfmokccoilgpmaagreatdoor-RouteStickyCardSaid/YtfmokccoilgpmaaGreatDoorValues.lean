/- Values, Has of package field and of its reference. -/
import Derived.Test.YtfmokccoilgpmaaGreatDoorNamed
namespace Go.Proofs.YtfmokccoilgpmaaGreatDoor
open Go.RowKit Go.Own
set_option linter.unusedVariables false
set_option maxHeartbeats 1000000

theorem foldB_seq (a b : ByteArray) : seq (lowerB a) (lowerB b) = foldB a b := rfl
theorem valuesS_take (l : List Fld) (name : ByteArray) (k : Nat) (hk : k < l.length) : valuesS (l.take (k + 1)) name = valuesS (l.take k) name ++ (if foldB l[k].name name then [l[k].val] else []) := by
  rw [valuesS, valuesS, List.take_succ_eq_append_getElem hk, List.filter_append, List.map_append]
  congr 1
  cases h : foldB l[k].name name <;> simp [h]
theorem valuesS_take_length (l : List Fld) (name : ByteArray) (k : Nat) : (valuesS (l.take k) name).length ≤ k := by
  rw [valuesS, List.length_map]
  exact Nat.le_trans (List.length_filter_le _ _) (by rw [List.length_take]; exact Nat.min_le_left _ _)
theorem valuesS_length (l : List Fld) (name : ByteArray) : (valuesS l name).length ≤ l.length := by
  rw [valuesS, List.length_map]; exact List.length_filter_le _ _

theorem values_calls (va : Value) (l : List Fld) (name : ByteArray) (w : World) (Ha : RdF w va l) (hl : l.length ≤ 100000000) (hn : name.size ≤ maxLen) (hf : ∀ f ∈ l, f.name.size ≤ maxLen) :
    Calls Tryz.prog 77 #[va, .string name] w fun e w' => (∃ v, e = .returned v ∧ OwnS w.heap.size w' v (valuesS l name)) ∧ Below w.heap.size w w' := by
  obtain ⟨a, cap, rfl, hlc, hcm, -, hc⟩ := Ha
  unfold maxLen at hcm
  go_enter Tryz.func77, Tryz.ntmps77
  go_wp2
  go_loopw [5, 11] (fun v i wr => ∃ (k : Nat) (done : List ByteArray), k ≤ l.length ∧ done.length ≤ k ∧ i = .int .i64 k ∧ OwnS w.heap.size wr v done ∧ Below w.heap.size w wr ∧ Hid (done = valuesS (l.take k) name)) (fun _ i _ => l.length - (intOf i).toNat)
  case atStart => exact ⟨0, [], Nat.zero_le _, Nat.le_refl _, rfl, World.ownsRow_nil _ _ _ _, Below.refl _ _, Lib.hid rfl⟩
  case round =>
    obtain ⟨k, done, hk, hdk, rfl, hown, hb, HD⟩ := hrel
    obtain ⟨a0, c0, rfl, hc1, hc2, hc3⟩ := owned_slice hown
    have hroom : (done.length + 1) * 16 ≤ 140737488355328 := by omega
    have hroom2 : done.length + 1 ≤ maxLen := by simp [maxLen]; omega
    clear hc1 hc2 hc3
    by_cases hlt : k < l.length
    · obtain ⟨b, off, rfl, hcell, hcell2⟩ := (hc.below hb).fld k hlt
      have hki : (k : Int) < (l.length : Int) := by omega
      have hfn := hf l[k] (List.getElem_mem hlt)
      have HN := Lib.hid (valuesS_take l name k hlt)
      cases hs : foldB l[k].name name with
      | true =>
        go_wp2_with fail
        refine (fof_calls _ _ _ hfn).mono ?_
        rintro e w1 ⟨rfl, hb1⟩
        have hbw := kept_below hb1
        have HB := Below.self_trans hb hbw
        have hown1 := hown.below hbw
        clear hb1 hbw hb hown
        go_wp2_with fail
        refine (is_calls _ _ _ _ _ hn).mono ?_
        rintro e w2 ⟨rfl, hb2⟩
        have k0 := (keptN hb2 0).1
        have k1 := (keptN hb2 1).1
        have k2 := (keptN hb2 2).1
        have hbw := kept_below hb2
        have HB2 := Below.self_trans HB hbw
        have hown2 := hown1.below hbw
        have hlt2 := kept_lt hb2
        have hs2 : seq (lowerB l[k].name) (lowerB name) = true := hs
        rw [hs2]
        clear hb2 hbw HB hown1 hs2
        go_wp2_with (at_builtin; refine wpList_append_one rfl (.tmp 20) (.tmp 24) 26 rfl w HB2 9 (.string .empty) 1 16 Tryz.underlying26 info_str rfl Nat.one_pos a0 done.length c0 (strsV done) [.string l[k].val] rfl (one_cell_str _) rfl hown2 rfl hroom hroom2 ?_; intro a1 c1 w3 hb3 hown3 hg3 _)
        go_roundw
        case rel => exact ⟨k + 1, done ++ [l[k].val], by omega, by simp; omega, by go_num, OwnS.snoc hown3, hb3, Lib.hid (by rw [HD.out, HN.out, hs]; rfl)⟩
        case measure => simp [intOf]; omega
      | false =>
        go_wp2_with fail
        refine (fof_calls _ _ _ hfn).mono ?_
        rintro e w1 ⟨rfl, hb1⟩
        have hbw := kept_below hb1
        have HB := Below.self_trans hb hbw
        have hown1 := hown.below hbw
        clear hb1 hbw hb hown
        go_wp2_with fail
        refine (is_calls _ _ _ _ _ hn).mono ?_
        rintro e w2 ⟨rfl, hb2⟩
        have k0 := (keptN hb2 0).1
        have k1 := (keptN hb2 1).1
        have k2 := (keptN hb2 2).1
        have hbw := kept_below hb2
        have HB2 := Below.self_trans HB hbw
        have hown2 := hown1.below hbw
        have hlt2 := kept_lt hb2
        have hs2 : seq (lowerB l[k].name) (lowerB name) = false := hs
        rw [hs2]
        clear hb2 hbw HB hown1 hs2
        go_wp2
        go_roundw
        case rel => exact ⟨k + 1, done, by omega, by omega, by go_num, hown2, HB2, Lib.hid (by rw [HD.out, HN.out, hs]; simp)⟩
        case measure => simp [intOf]; omega
    · clear hc
      have hkl : k = l.length := by omega
      have hd : done = valuesS l name := by rw [HD.out, hkl, List.take_length]
      clear HD hkl
      subst hd
      go_wp2
      go_ret
      exact ⟨⟨_, rfl, hown⟩, hb⟩
end Go.Proofs.YtfmokccoilgpmaaGreatDoor
