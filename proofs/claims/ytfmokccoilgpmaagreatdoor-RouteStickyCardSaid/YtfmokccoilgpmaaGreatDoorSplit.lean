/- Split at one byte: strings.Split by its contract, and the reference's own. -/
import Derived.Test.YtfmokccoilgpmaaGreatDoorTrim
import Derived.Test.YtfmokccoilgpmaaGreatDoorPA
import Derived.Test.YtfmokccoilgpmaaGreatDoorEnv
namespace Go.Proofs.YtfmokccoilgpmaaGreatDoor
open Go.RowKit Go.Own
set_option linter.unusedVariables false

theorem one_size (c : UInt8) : 1 ≤ (⟨#[c]⟩ : ByteArray).size := Nat.le_refl 1
theorem map_bs_bl (l : List ByteArray) : (l.map bl).map bs = l := by
  rw [List.map_map]
  induction l with
  | nil => rfl
  | cons x l ih => rw [List.map_cons, ih]; show bs (bl x) :: l = _; rw [bs_bl]

/-- strings.Split at one byte -/
theorem strsplit_calls (c : UInt8) (s : ByteArray) (w : World) (hE : Env w) (hs : s.size < 4294967281) :
    Calls Tryz.prog 78 #[.string s, .string ⟨#[c]⟩] w fun e w' => (∃ v, e = .returned v ∧ OwnS w.heap.size w' v (splitS c s)) ∧ Below w.heap.size w w' := by
  obtain ⟨m, hm⟩ := hE.max
  refine (Tryz.strings_Split s ⟨#[c]⟩ m w hs hm (one_size c)).mono ?_
  rintro e w' ⟨rfl, rfl⟩
  refine ⟨⟨_, rfl, ?_⟩, (Below.refl _ _).alloc (Nat.le_refl _) _⟩
  have hl : Lib.countB s ⟨#[c]⟩ + 1 = (splitS c s).length := by
    rw [← splitB_one]
    exact (Lib.splitB_all _ (one_size c) 0 _ s rfl).symm
  rw [splitB_one, hl]
  have h := World.ownsRow_lit w ((splitS c s).map Value.string).toArray (base := w.heap.size) (e := 9) (size := 1) (splitS c s).length (Nat.le_refl _) ?_ (by simp)
  · simpa [OwnS, strsV] using h
  · have := Lib.countB_le ⟨#[c]⟩ (one_size c) s.size s (Nat.le_refl _)
    rw [← hl]; simp [maxLen]; omega

set_option maxHeartbeats 1000000 in
theorem refSplit_calls (c : UInt8) (s : ByteArray) (w : World) (hs : s.size ≤ 4294967296) :
    Calls Tryz.prog 86 #[.string s, .int .u8 (c.toNat : Int)] w fun e w' => (∃ v, e = .returned v ∧ OwnS w.heap.size w' v (splitS c s)) ∧ Below w.heap.size w w' := by
  have HL := Lib.hid (bl_length s)
  go_enter Tryz.func86, Tryz.ntmps86
  go_wp2
  go_loopw [5, 6, 7] (fun v f i wr => ∃ (k p : Nat) (done : List ByteArray), k ≤ s.size + 1 ∧ p ≤ k ∧ done.length ≤ k ∧ i = .int .i64 k ∧ f = .int .i64 p ∧ OwnS w.heap.size wr v done ∧ Below w.heap.size w wr ∧ Hid (SplitAt c (bl s) k p (done.map bl))) (fun _ _ i _ => s.size + 1 - (intOf i).toNat)
  case atStart => exact ⟨0, 0, [], Nat.zero_le _, Nat.le_refl _, Nat.le_refl _, rfl, rfl, World.ownsRow_nil _ _ _ _, Below.refl _ _, SplitAt.start⟩
  case round =>
    obtain ⟨k, p, done, hk, hpk, hdk, rfl, rfl, hown, hb, HS⟩ := hrel
    obtain ⟨a0, c0, rfl, hc1, hc2, hc3⟩ := owned_slice hown
    have hroom : (done.length + 1) * 16 ≤ 140737488355328 := by omega
    have hroom2 : done.length + 1 ≤ maxLen := by simp [maxLen]; omega
    clear hc1 hc2 hc3
    by_cases hend : k ≤ s.size
    · have hle : (k : Int) ≤ (s.size : Int) := by omega
      by_cases hks : k = s.size
      · have hks2 : ((k : Int) == (s.size : Int)) = true := by rw [beq_iff_eq]; omega
        have HN := Lib.hid (SplitAt.fin' HS.out (by rw [HL.out]; exact hks))
        have HK := Lib.hid hks
        clear hks HS
        go_wp2_with (at_builtin; refine wpList_append_one rfl (.tmp 25) (.tmp 30) 26 rfl w hb 9 (.string .empty) 1 16 Tryz.underlying26 info_str rfl Nat.one_pos a0 done.length c0 (strsV done) [.string (s.extract p k)] rfl (one_cell_str _) rfl hown rfl hroom hroom2 ?_; intro a1 c1 w1 hb1 hown1 hg1 _)
        go_roundw
        case rel => exact ⟨k + 1, k + 1, done ++ [s.extract p k], by omega, by omega, by simp; omega, by go_num, by go_num, OwnS.snoc hown1, hb1, Lib.hid (by rw [List.map_append, List.map_cons, List.map_nil, bl_extract]; exact HN.out)⟩
        case measure => simp [intOf]; omega
      · have hks2 : ((k : Int) == (s.size : Int)) = false := by rw [beq_eq_false_iff_ne]; omega
        have hlt : k < s.size := by omega
        obtain ⟨x, hx, hsx⟩ := byte_split s k hlt
        by_cases he : x = c
        · have hg : ((x.toNat : Int) == (c.toNat : Int)) = true := by rw [he]; simp
          have HN := Lib.hid (HS.out.hit (by rw [HL.out]; exact hlt) (by rw [hx]; exact he))
          clear hx he HS
          go_wp2_with (at_builtin; refine wpList_append_one rfl (.tmp 25) (.tmp 30) 26 rfl w hb 9 (.string .empty) 1 16 Tryz.underlying26 info_str rfl Nat.one_pos a0 done.length c0 (strsV done) [.string (s.extract p k)] rfl (one_cell_str _) rfl hown rfl hroom hroom2 ?_; intro a1 c1 w1 hb1 hown1 hg1 _)
          go_roundw
          case rel => exact ⟨k + 1, k + 1, done ++ [s.extract p k], by omega, by omega, by simp; omega, by go_num, by go_num, OwnS.snoc hown1, hb1, Lib.hid (by rw [List.map_append, List.map_cons, List.map_nil, bl_extract]; exact HN.out)⟩
          case measure => simp [intOf]; omega
        · have hg : ((x.toNat : Int) == (c.toNat : Int)) = false := byte_ne he
          have HN := Lib.hid (HS.out.skip (by rw [HL.out]; exact hlt) (by rw [hx]; exact he))
          clear hx he HS
          go_wp2
          go_roundw
          case rel => exact ⟨k + 1, p, done, by omega, by omega, by omega, by go_num, rfl, hown, hb, HN⟩
          case measure => simp [intOf]; omega
    · have hk1 : k = s.size + 1 := by omega
      have HN := Lib.hid (HS.out.2 (by rw [HL.out]; exact hk1))
      have hgt : (s.size : Int) < (k : Int) := by omega
      have hle : decide ((k : Int) ≤ (s.size : Int)) = false := by rw [decide_eq_false_iff_not]; omega
      clear hk1 HS hend
      go_wp2
      go_ret
      refine ⟨⟨_, rfl, ?_⟩, hb⟩
      rw [splitS, ← HN.out, map_bs_bl]
      exact hown
end Go.Proofs.YtfmokccoilgpmaaGreatDoor
