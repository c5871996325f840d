/- List of package ascii and of its reference; Same. -/
import Derived.Test.YthohdgjjlkeclaaDoorSplit
namespace Go.Proofs.YthohdgjjlkeclaaDoor
open Go.RowKit Go.Own
set_option linter.unusedVariables false

theorem OwnS.cast {B : Nat} {w : World} {v : Value} {l m : List ByteArray} (h : OwnS B w v l) (e : l = m) : OwnS B w v m := e ▸ h

set_option maxHeartbeats 2000000 in
theorem list_calls (v : Value) (l : List ByteArray) (w : World) (hE : Env w) (H : RdS w v l) (hsz : ∀ s ∈ l, s.size < 4294967281) (hN : (elemsS l).length ≤ 4294967296) :
    Calls Tryd.prog 43 #[v] w fun e w' => (∃ v, e = .returned v ∧ OwnS w.heap.size w' v (elemsS l)) ∧ Below w.heap.size w w' := by
  obtain ⟨a, cap, rfl, hlc, hcm, -, hc⟩ := H
  unfold maxLen at hcm
  go_enter Tryd.func43, Tryd.ntmps43
  go_wp2
  go_loopw [3, 10] (fun v i wr => ∃ k : Nat, k ≤ l.length ∧ i = .int .i64 k ∧ OwnS w.heap.size wr v (elemsS (l.take k)) ∧ Below w.heap.size w wr) (fun _ i _ => l.length - (intOf i).toNat)
  case atStart => exact ⟨0, Nat.zero_le _, rfl, World.ownsRow_nil _ _ _ _, Below.refl _ _⟩
  case round =>
    obtain ⟨k, hk, rfl, hown, hb⟩ := hrel
    obtain ⟨a0, c0, rfl, -, -, -⟩ := owned_slice hown
    by_cases hlt : k < l.length
    · obtain ⟨b, off, rfl, hcell⟩ := (hc.below hb).str k hlt
      have hsk := hsz l[k] (List.getElem_mem hlt)
      have HS := Lib.hid (elemsS_succ l k hlt)
      have HP := Lib.hid (fun j => Nat.le_trans (elemsS_part_le l k hlt j) hN)
      have HZ := Lib.hid (fun (p : ByteArray) (hp : p ∈ splitS 44 l[k]) => Nat.le_trans (splitS_size 44 l[k] p hp) (Nat.le_of_lt hsk))
      have HZL := Lib.hid (splitS_length 44 l[k])
      clear hc hsz
      go_wp2_with fail
      refine (strsplit_calls 44 l[k] _ (hE.below hb) hsk).mono ?_
      rintro e w1 ⟨⟨vp, rfl, hpo⟩, hb1⟩
      obtain ⟨ap, cp, rfl, hp1, hp2, -⟩ := owned_slice hpo
      have hown1 := hown.below hb1
      have hap := ApartB.later hpo hown
      have hpr : RdC w1 ap (strsV (splitS 44 l[k])) := by obtain ⟨_, _, e, _, _, _, h⟩ := hpo.rd; injection e with e1 e2 e3; subst e1; exact h
      have hbw := Below.self_trans hb hb1
      clear hpo hown hb hb1
      generalize hps : splitS 44 l[k] = ps at *
      clear hps
      have hpl : ps.length ≤ 4294967281 := by have := HZL.out; omega
      go_wp2
      go_loopw [3, 17] (fun v i wr => ∃ (j : Nat) (a2 : Option Addr) (c2 : Nat) (cur : List ByteArray), j ≤ ps.length ∧ i = .int .i64 j ∧ v = .slice a2 cur.length c2 ∧ OwnS w.heap.size wr v cur ∧ Hid (cur = elemsS (l.take k) ++ partsS (ps.take j)) ∧ Below w.heap.size w wr ∧ RdC wr ap (strsV ps) ∧ ApartB wr ap a2) (fun _ i _ => ps.length - (intOf i).toNat)
      case atStart => exact ⟨0, a0, c0, _, Nat.zero_le _, rfl, rfl, hown1, Lib.hid (by simp [partsS]), hbw, hpr, hap⟩
      case round =>
        clear hown1 hbw hpr hap
        obtain ⟨j, a2, c2, cur, hj, rfl, rfl, hown2, hcur, hb2, hpr2, hap2⟩ := hrel
        by_cases hlt2 : j < ps.length
        · obtain ⟨bp, op, rfl, hcell2⟩ := hpr2.str j hlt2
          have hps := HZ.out ps[j] (List.getElem_mem hlt2)
          have hpm : ps[j].size ≤ maxLen := by simp [maxLen]; omega
          cases hn : nonempty (trim (bl ps[j])) with
          | true =>
            have HY := Lib.hid (partsS_yes ps j hlt2 hn)
            have hemp : (trimB ps[j]).toList.isEmpty = false := by rw [trimB_isEmpty, hn]; rfl
            have hlen : cur.length ≤ 4294967296 := by rw [hcur.out]; exact HP.out j
            clear hn
            have hroom : (cur.length + 1) * 16 ≤ 140737488355328 := by omega
            have hroom2 : cur.length + 1 ≤ maxLen := by unfold maxLen; omega
            go_wp2_with fail
            refine (trim_calls ps[j] _ hpm).mono ?_
            rintro e w2 ⟨rfl, rfl⟩
            go_wp2_with (at_builtin; refine wpList_append_one rfl (.tmp 25) (.tmp 27) 37 rfl w hb2 9 (.string .empty) 1 16 Tryd.underlying37 info_str rfl Nat.one_pos a2 cur.length c2 (strsV cur) [.string (trimB ps[j])] rfl (one_cell_str _) rfl hown2 rfl hroom hroom2 ?_; intro a3 c3 w3 hb3 hown3 hg3 hw3)
            have hx := hap2.rd hpr2 hg3
            have hy := hap2.next hg3.size hw3
            go_roundw
            case rel => exact ⟨j + 1, a3, c3, cur ++ [trimB ps[j]], by omega, by go_num, by simp, OwnS.snoc hown3, Lib.hid (by rw [HY.out, ← List.append_assoc, ← hcur.out]), hb3, hx, hy⟩
            case measure => simp [intOf]; omega
          | false =>
            have HY := Lib.hid (partsS_no ps j hlt2 hn)
            have hemp : (trimB ps[j]).toList.isEmpty = true := by rw [trimB_isEmpty, hn]; rfl
            clear hn
            go_wp2_with fail
            refine (trim_calls ps[j] _ hpm).mono ?_
            rintro e w2 ⟨rfl, rfl⟩
            go_wp2
            go_roundw
            case rel => exact ⟨j + 1, a2, c2, cur, by omega, by go_num, rfl, hown2, Lib.hid (by rw [HY.out]; exact hcur.out), hb2, hpr2, hap2⟩
            case measure => simp [intOf]; omega
        · have ht : ps.take j = ps := List.take_of_length_le (by omega)
          have hc3 := hcur.out
          rw [ht, ← HS.out] at hc3
          have hown3 := OwnS.cast hown2 hc3
          clear ht hcur hown2
          subst hc3
          go_wp2
          go_roundw
          case rel => exact ⟨k + 1, by omega, by go_num, hown3, hb2⟩
          case measure => simp [intOf]; omega
    · have ht : l.take k = l := List.take_of_length_le (by omega)
      have hown2 := OwnS.cast hown (congrArg elemsS ht)
      clear hc ht
      go_wp2
      go_ret
      exact ⟨⟨_, rfl, hown2⟩, hb⟩

set_option maxHeartbeats 2000000 in
theorem refList_calls (v : Value) (l : List ByteArray) (w : World) (H : RdS w v l) (hsz : ∀ s ∈ l, s.size < 4294967281) (hN : (elemsS l).length ≤ 4294967296) :
    Calls Tryd.prog 54 #[v] w fun e w' => (∃ v, e = .returned v ∧ OwnS w.heap.size w' v (elemsS l)) ∧ Below w.heap.size w w' := by
  obtain ⟨a, cap, rfl, hlc, hcm, -, hc⟩ := H
  unfold maxLen at hcm
  go_enter Tryd.func54, Tryd.ntmps54
  go_wp2
  go_loopw [3, 4] (fun v i wr => ∃ k : Nat, k ≤ l.length ∧ i = .int .i64 k ∧ OwnS w.heap.size wr v (elemsS (l.take k)) ∧ Below w.heap.size w wr) (fun _ i _ => l.length - (intOf i).toNat)
  case atStart => exact ⟨0, Nat.zero_le _, rfl, World.ownsRow_nil _ _ _ _, Below.refl _ _⟩
  case round =>
    obtain ⟨k, hk, rfl, hown, hb⟩ := hrel
    obtain ⟨a0, c0, rfl, -, -, -⟩ := owned_slice hown
    by_cases hlt : k < l.length
    · obtain ⟨b, off, rfl, hcell⟩ := (hc.below hb).str k hlt
      have hsk := hsz l[k] (List.getElem_mem hlt)
      have HS := Lib.hid (elemsS_succ l k hlt)
      have HP := Lib.hid (fun j => Nat.le_trans (elemsS_part_le l k hlt j) hN)
      have HZ := Lib.hid (fun (p : ByteArray) (hp : p ∈ splitS 44 l[k]) => Nat.le_trans (splitS_size 44 l[k] p hp) (Nat.le_of_lt hsk))
      have HZL := Lib.hid (splitS_length 44 l[k])
      clear hc hsz
      go_wp2_with fail
      refine (refSplit_calls 44 l[k] _ (by omega)).mono ?_
      rintro e w1 ⟨⟨vp, rfl, hpo⟩, hb1⟩
      obtain ⟨ap, cp, rfl, hp1, hp2, -⟩ := owned_slice hpo
      have hown1 := hown.below hb1
      have hap := ApartB.later hpo hown
      have hpr : RdC w1 ap (strsV (splitS 44 l[k])) := by obtain ⟨_, _, e, _, _, _, h⟩ := hpo.rd; injection e with e1 e2 e3; subst e1; exact h
      have hbw := Below.self_trans hb hb1
      clear hpo hown hb hb1
      generalize hps : splitS 44 l[k] = ps at *
      clear hps
      have hpl : ps.length ≤ 4294967281 := by have := HZL.out; omega
      go_wp2
      go_loopw [3, 6] (fun v i wr => ∃ (j : Nat) (a2 : Option Addr) (c2 : Nat) (cur : List ByteArray), j ≤ ps.length ∧ i = .int .i64 j ∧ v = .slice a2 cur.length c2 ∧ OwnS w.heap.size wr v cur ∧ Hid (cur = elemsS (l.take k) ++ partsS (ps.take j)) ∧ Below w.heap.size w wr ∧ RdC wr ap (strsV ps) ∧ ApartB wr ap a2) (fun _ i _ => ps.length - (intOf i).toNat)
      case atStart => exact ⟨0, a0, c0, _, Nat.zero_le _, rfl, rfl, hown1, Lib.hid (by simp [partsS]), hbw, hpr, hap⟩
      case round =>
        clear hown1 hbw hpr hap
        obtain ⟨j, a2, c2, cur, hj, rfl, rfl, hown2, hcur, hb2, hpr2, hap2⟩ := hrel
        by_cases hlt2 : j < ps.length
        · obtain ⟨bp, op, rfl, hcell2⟩ := hpr2.str j hlt2
          have hps := HZ.out ps[j] (List.getElem_mem hlt2)
          have hpm : ps[j].size ≤ maxLen := by simp [maxLen]; omega
          cases hn : nonempty (trim (bl ps[j])) with
          | true =>
            have HY := Lib.hid (partsS_yes ps j hlt2 hn)
            have hemp : (trimB ps[j]).toList.isEmpty = false := by rw [trimB_isEmpty, hn]; rfl
            have hlen : cur.length ≤ 4294967296 := by rw [hcur.out]; exact HP.out j
            clear hn
            have hroom : (cur.length + 1) * 16 ≤ 140737488355328 := by omega
            have hroom2 : cur.length + 1 ≤ maxLen := by unfold maxLen; omega
            go_wp2_with fail
            refine (refTrim_calls ps[j] _ hpm).mono ?_
            rintro e w2 ⟨rfl, rfl⟩
            go_wp2_with (at_builtin; refine wpList_append_one rfl (.tmp 32) (.tmp 34) 37 rfl w hb2 9 (.string .empty) 1 16 Tryd.underlying37 info_str rfl Nat.one_pos a2 cur.length c2 (strsV cur) [.string (trimB ps[j])] rfl (one_cell_str _) rfl hown2 rfl hroom hroom2 ?_; intro a3 c3 w3 hb3 hown3 hg3 hw3)
            have hx := hap2.rd hpr2 hg3
            have hy := hap2.next hg3.size hw3
            go_roundw
            case rel => exact ⟨j + 1, a3, c3, cur ++ [trimB ps[j]], by omega, by go_num, by simp, OwnS.snoc hown3, Lib.hid (by rw [HY.out, ← List.append_assoc, ← hcur.out]), hb3, hx, hy⟩
            case measure => simp [intOf]; omega
          | false =>
            have HY := Lib.hid (partsS_no ps j hlt2 hn)
            have hemp : (trimB ps[j]).toList.isEmpty = true := by rw [trimB_isEmpty, hn]; rfl
            clear hn
            go_wp2_with fail
            refine (refTrim_calls ps[j] _ hpm).mono ?_
            rintro e w2 ⟨rfl, rfl⟩
            go_wp2
            go_roundw
            case rel => exact ⟨j + 1, a2, c2, cur, by omega, by go_num, rfl, hown2, Lib.hid (by rw [HY.out]; exact hcur.out), hb2, hpr2, hap2⟩
            case measure => simp [intOf]; omega
        · have ht : ps.take j = ps := List.take_of_length_le (by omega)
          have hc3 := hcur.out
          rw [ht, ← HS.out] at hc3
          have hown3 := OwnS.cast hown2 hc3
          clear ht hcur hown2
          subst hc3
          go_wp2
          go_roundw
          case rel => exact ⟨k + 1, by omega, by go_num, hown3, hb2⟩
          case measure => simp [intOf]; omega
    · have ht : l.take k = l := List.take_of_length_le (by omega)
      have hown2 := OwnS.cast hown (congrArg elemsS ht)
      clear hc ht
      go_wp2
      go_ret
      exact ⟨⟨_, rfl, hown2⟩, hb⟩

end Go.Proofs.YthohdgjjlkeclaaDoor
