/- The reference's Values and Has; Elements of both. -/
import Derived.Test.YtfmokccoilgpmaaGreatDoorN06
import Derived.Test.YtfmokccoilgpmaaGreatDoorList
import Derived.Deep.RegionHeld3
namespace Go.Proofs.YtfmokccoilgpmaaGreatDoor
open Go.RowKit Go.Own
set_option linter.unusedVariables false
set_option maxHeartbeats 1000000

theorem refValues_calls (va : Value) (l : List Fld) (name : ByteArray) (w : World) (Ha : RdF w va l) (hl : l.length ≤ 100000000) (hn : name.size ≤ maxLen) (hf : ∀ f ∈ l, f.name.size ≤ maxLen) :
    Calls Tryz.prog 85 #[va, .string name] w fun e w' => (∃ v, e = .returned v ∧ OwnS w.heap.size w' v (valuesS l name)) ∧ Below w.heap.size w w' := by
  obtain ⟨a, cap, rfl, hlc, hcm, -, hc⟩ := Ha
  unfold maxLen at hcm
  go_enter Tryz.func85, Tryz.ntmps85
  go_wp2
  go_loopw [5, 6] (fun v i wr => ∃ (k : Nat) (done : List ByteArray), k ≤ l.length ∧ done.length ≤ k ∧ i = .int .i64 k ∧ OwnS w.heap.size wr v done ∧ Below w.heap.size w wr ∧ Hid (done = valuesS (l.take k) name)) (fun _ i _ => l.length - (intOf i).toNat)
  case atStart => exact ⟨0, [], Nat.zero_le _, Nat.le_refl _, rfl, World.ownsRow_nil _ _ _ _, Below.refl _ _, Lib.hid rfl⟩
  case round =>
    obtain ⟨k, done, hk, hdk, rfl, hown, hb, HD⟩ := hrel
    obtain ⟨a0, c0, rfl, hc1, hc2, hc3⟩ := owned_slice hown
    have hroom : (done.length + 1) * 16 ≤ 140737488355328 := by omega
    have hroom2 : done.length + 1 ≤ maxLen := by simp [maxLen]; omega
    clear hc1 hc2 hc3
    by_cases hlt : k < l.length
    · obtain ⟨b, off, rfl, hcell, hcell2⟩ := (hc.below hb).fld k hlt
      have hki : (k : Int) < (l.length : Int) := by omega
      have hfn := hf l[k] (List.getElem_mem hlt)
      have HN := Lib.hid (valuesS_take l name k hlt)
      cases hs : foldB l[k].name name with
      | true =>
        go_wp2_with fail
        refine (refFold_calls _ _ _ hfn hn).mono ?_
        rintro e w1 ⟨rfl, hb1⟩
        rw [hs]
        have HB := Below.self_trans hb hb1
        have hown1 := hown.below hb1
        obtain ⟨b2, off2, hb2, hcell3, hcell4⟩ := (hc.below HB).fld k hlt
        injection hb2 with hb2
        injection hb2 with hb3 hb4
        subst hb3 hb4
        clear hb1 hb hown hcell hcell2
        go_wp2_with (at_builtin; refine wpList_append_one rfl (.tmp 20) (.tmp 26) 26 rfl w HB 9 (.string .empty) 1 16 Tryz.underlying26 info_str rfl Nat.one_pos a0 done.length c0 (strsV done) [.string l[k].val] rfl (one_cell_str _) rfl hown1 rfl hroom hroom2 ?_; intro a1 c1 w3 hb3 hown3 hg3 _)
        go_roundw
        case rel => exact ⟨k + 1, done ++ [l[k].val], by omega, by simp; omega, by go_num, OwnS.snoc hown3, hb3, Lib.hid (by rw [HD.out, HN.out, hs]; rfl)⟩
        case measure => simp [intOf]; omega
      | false =>
        go_wp2_with fail
        refine (refFold_calls _ _ _ hfn hn).mono ?_
        rintro e w1 ⟨rfl, hb1⟩
        rw [hs]
        have HB := Below.self_trans hb hb1
        have hown1 := hown.below hb1
        clear hb1 hb hown hcell hcell2
        go_wp2
        go_roundw
        case rel => exact ⟨k + 1, done, by omega, by omega, by go_num, hown1, HB, Lib.hid (by rw [HD.out, HN.out, hs]; simp)⟩
        case measure => simp [intOf]; omega
    · clear hc
      have hkl : k = l.length := by omega
      have hd : done = valuesS l name := by rw [HD.out, hkl, List.take_length]
      clear HD hkl
      subst hd
      go_wp2
      go_ret
      exact ⟨⟨_, rfl, hown⟩, hb⟩

theorem own_base {w : World} {B B' : Nat} {v : Value} {l : List ByteArray} (h : OwnS B w v l) (hB : B' ≤ B) : OwnS B' w v l := by
  obtain ⟨h1, h2⟩ := h
  refine ⟨h1, ?_⟩
  rcases h2 with h2 | ⟨g, cap, cur, q1, q2, q3⟩
  · exact Or.inl h2
  · exact Or.inr ⟨g, cap, cur, q1, Nat.le_trans hB q2, q3⟩



theorem valuesS_sum (l : List Fld) (name : ByteArray) : ((valuesS l name).map fun s => s.size + 1).sum ≤ fsize l := by
  induction l with
  | nil => exact Nat.le_refl _
  | cons f l ih =>
    unfold valuesS fsize at ih ⊢
    rw [List.filter_cons, List.map_cons, List.sum_cons]
    cases h : foldB f.name name
    · simp only [Bool.false_eq_true, if_false]; omega
    · simp only [if_true, List.map_cons, List.sum_cons]; omega
theorem valuesS_mem {l : List Fld} {name s : ByteArray} (h : s ∈ valuesS l name) : s.size ≤ fsize l := by
  obtain ⟨f, hf, rfl⟩ := List.mem_map.1 h
  have := fsize_mem (List.mem_filter.1 hf).1
  omega





end Go.Proofs.YtfmokccoilgpmaaGreatDoor
