/- The hash layer and its reference: what each function computes. -/
import Derived.Test.YtfmokccoilgpmaaGreatDoorRows
import Derived.Test.YtfmokccoilgpmaaGreatDoorLib
namespace Go.Proofs.YtfmokccoilgpmaaGreatDoor
open Go.RowKit Go.Own

/-- one byte more -/
def hstep (h : Int) (c : UInt8) : Int := IntKind.u64.wrap (bits BinOp.xor IntKind.u64 h (IntKind.u64.wrap (c.toNat : Int)) * 1099511628211)
def hrun (h : Int) (l : List UInt8) : Int := l.foldl hstep h
theorem hrun_append (h : Int) (l m : List UInt8) : hrun h (l ++ m) = hrun (hrun h l) m := List.foldl_append
theorem hrun_snoc (h : Int) (l : List UInt8) (k : Nat) (hk : k < l.length) : hrun h (l.take (k + 1)) = hstep (hrun h (l.take k)) l[k] := by
  rw [List.take_succ_eq_append_getElem hk, hrun_append]; rfl
def hstart : Int := 14695981039346656037
def hsum (l : List ByteArray) : Int := l.foldl (fun h s => hrun (hrun h s.data.toList) [0]) hstart
theorem hsum_snoc (l : List ByteArray) (k : Nat) (hk : k < l.length) : hsum (l.take (k + 1)) = hrun (hrun (hsum (l.take k)) l[k].data.toList) [0] := by
  unfold hsum
  rw [List.take_succ_eq_append_getElem hk, List.foldl_append]; rfl

set_option maxHeartbeats 400000 in
theorem hashWrite_calls (h : Int) (v : Value) (l : List UInt8) (w : World) (H : RdB w v l) :
    Calls Tryz.prog 70 #[.int .u64 h, v] w fun e w' => e = .returned (.int .u64 (hrun h l)) ∧ w = w' := by
  obtain ⟨a, cap, rfl, hlc, hcm, -, hc⟩ := H
  unfold maxLen at hcm
  go_enter Tryz.func70, Tryz.ntmps70
  go_wp2
  go_loop [0, 6, 9] (fun x _ i => ∃ k : Nat, k ≤ l.length ∧ i = .int .i64 k ∧ x = .int .u64 (hrun h (l.take k))) (fun _ _ i => l.length - (intOf i).toNat)
  case atStart => exact ⟨0, Nat.zero_le _, rfl, rfl⟩
  case round =>
    obtain ⟨k, hk, rfl, rfl⟩ := hrel
    by_cases hlt : k < l.length
    · obtain ⟨b, off, rfl, hcell⟩ := hc.byte k hlt
      have HS := Lib.hid (hrun_snoc h l k hlt)
      clear hc
      go_wp2
      go_round
      case rel => exact ⟨k + 1, by omega, by go_num, by rw [HS.out]; rfl⟩
      case measure => simp [intOf]; omega
    · clear hc
      go_wp2
      go_ret
      exact ⟨ret_int (by rw [List.take_of_length_le (by omega)]), rfl⟩

set_option maxHeartbeats 400000 in
theorem refWrite_calls (h : Int) (v : Value) (l : List UInt8) (w : World) (H : RdB w v l) :
    Calls Tryz.prog 66 #[.int .u64 h, v] w fun e w' => e = .returned (.int .u64 (hrun h l)) ∧ w = w' := by
  obtain ⟨a, cap, rfl, hlc, hcm, -, hc⟩ := H
  unfold maxLen at hcm
  go_enter Tryz.func66, Tryz.ntmps66
  go_wp2
  go_loop [0, 5] (fun x  i => ∃ k : Nat, k ≤ l.length ∧ i = .int .i64 k ∧ x = .int .u64 (hrun h (l.take k))) (fun _  i => l.length - (intOf i).toNat)
  case atStart => exact ⟨0, Nat.zero_le _, rfl, rfl⟩
  case round =>
    obtain ⟨k, hk, rfl, rfl⟩ := hrel
    by_cases hlt : k < l.length
    · obtain ⟨b, off, rfl, hcell⟩ := hc.byte k hlt
      have HS := Lib.hid (hrun_snoc h l k hlt)
      clear hc
      go_wp2
      go_round
      case rel => exact ⟨k + 1, by omega, by go_num, by rw [HS.out]; rfl⟩
      case measure => simp [intOf]; omega
    · clear hc
      go_wp2
      go_ret
      exact ⟨ret_int (by rw [List.take_of_length_le (by omega)]), rfl⟩

theorem hashStart_calls (w : World) :
    Calls Tryz.prog 69 #[] w fun e w' => e = .returned (.int .u64 hstart) ∧ w = w' := by
  go_enter Tryz.func69, Tryz.ntmps69
  go_wp2
  go_ret
  exact ⟨rfl, rfl⟩

theorem refStart_calls (w : World) :
    Calls Tryz.prog 65 #[] w fun e w' => e = .returned (.int .u64 hstart) ∧ w = w' := by
  go_enter Tryz.func65, Tryz.ntmps65
  go_wp2
  go_ret
  exact ⟨rfl, rfl⟩

set_option maxHeartbeats 400000 in
theorem hashSum_calls (v : Value) (l : List ByteArray) (w : World) (H : RdS w v l) (hsz : ∀ s ∈ l, s.size ≤ maxLen) :
    Calls Tryz.prog 37 #[v] w fun e w' => e = .returned (.int .u64 (hsum l)) ∧ Below w.heap.size w w' := by
  obtain ⟨a, cap, rfl, hlc, hcm, -, hc⟩ := H
  unfold maxLen at hcm
  go_enter Tryz.func37, Tryz.ntmps37
  go_wp2_with (go_at_call 69; refine (hashStart_calls _).mono ?_; rintro e w' ⟨rfl, rfl⟩)
  go_loopw [3, 5, 9] (fun x _ i wr => ∃ k : Nat, k ≤ l.length ∧ i = .int .i64 k ∧ x = .int .u64 (hsum (l.take k)) ∧ Below w.heap.size w wr) (fun _ _ i _ => l.length - (intOf i).toNat)
  case atStart => exact ⟨0, Nat.zero_le _, rfl, rfl, Below.refl _ _⟩
  case round =>
    obtain ⟨k, hk, rfl, rfl, hb⟩ := hrel
    by_cases hlt : k < l.length
    · obtain ⟨b, off, rfl, hcell⟩ := (hc.below hb).str k hlt
      have HS := Lib.hid (hsum_snoc l k hlt)
      have hsk := hsz l[k] (List.getElem_mem hlt)
      clear hc hsz
      go_wp2_with (refine wpList_strbytes rfl 9 33 _ rfl _ rfl 5 Tryz.underlying9 Tryz.underlying33 Tryz.underlying5 ?_ hsk)
      intro ad cap1 w1 hb1 hc1 hm1 hr1
      go_wp2_with fail
      refine (hashWrite_calls _ _ l[k].data.toList _ (RdB_of (size_toList _) hc1 hm1 (by simp) hr1)).mono ?_
      rintro e w2 ⟨rfl, rfl⟩
      go_wp2_with fail
      refine (hashWrite_calls _ _ [0] _ (RdB_of rfl (Nat.le_refl _) (by simp [maxLen]) (by simp) (RdC_new _ [.int .u8 0] _ _))).mono ?_
      rintro e w2 ⟨rfl, rfl⟩
      go_wp2
      go_roundw
      case rel => exact ⟨k + 1, by omega, by go_num, by rw [HS.out], (hb.trans (hb1.mono hb.size)).alloc (by have := hb1.size; have := hb.size; omega) _⟩
      case measure => simp [intOf]; omega
    · clear hc
      go_wp2
      go_ret
      exact ⟨ret_int (by rw [List.take_of_length_le (by omega)]), hb⟩

set_option maxHeartbeats 400000 in
theorem refSum_calls (v : Value) (l : List ByteArray) (w : World) (H : RdS w v l) (hsz : ∀ s ∈ l, s.size ≤ maxLen) :
    Calls Tryz.prog 33 #[v] w fun e w' => e = .returned (.int .u64 (hsum l)) ∧ Below w.heap.size w w' := by
  obtain ⟨a, cap, rfl, hlc, hcm, -, hc⟩ := H
  unfold maxLen at hcm
  go_enter Tryz.func33, Tryz.ntmps33
  go_wp2_with (go_at_call 65; refine (refStart_calls _).mono ?_; rintro e w' ⟨rfl, rfl⟩)
  go_loopw [3, 4] (fun x  i wr => ∃ k : Nat, k ≤ l.length ∧ i = .int .i64 k ∧ x = .int .u64 (hsum (l.take k)) ∧ Below w.heap.size w wr) (fun _  i _ => l.length - (intOf i).toNat)
  case atStart => exact ⟨0, Nat.zero_le _, rfl, rfl, Below.refl _ _⟩
  case round =>
    obtain ⟨k, hk, rfl, rfl, hb⟩ := hrel
    by_cases hlt : k < l.length
    · obtain ⟨b, off, rfl, hcell⟩ := (hc.below hb).str k hlt
      have HS := Lib.hid (hsum_snoc l k hlt)
      have hsk := hsz l[k] (List.getElem_mem hlt)
      clear hc hsz
      go_wp2_with (refine wpList_strbytes rfl 9 33 _ rfl _ rfl 5 Tryz.underlying9 Tryz.underlying33 Tryz.underlying5 ?_ hsk)
      intro ad cap1 w1 hb1 hc1 hm1 hr1
      go_wp2_with fail
      refine (refWrite_calls _ _ l[k].data.toList _ (RdB_of (size_toList _) hc1 hm1 (by simp) hr1)).mono ?_
      rintro e w2 ⟨rfl, rfl⟩
      go_wp2_with fail
      refine (refWrite_calls _ _ [0] _ (RdB_of rfl (Nat.le_refl _) (by simp [maxLen]) (by simp) (RdC_new _ [.int .u8 0] _ _))).mono ?_
      rintro e w2 ⟨rfl, rfl⟩
      go_wp2
      go_roundw
      case rel => exact ⟨k + 1, by omega, by go_num, by rw [HS.out], (hb.trans (hb1.mono hb.size)).alloc (by have := hb1.size; have := hb.size; omega) _⟩
      case measure => simp [intOf]; omega
    · clear hc
      go_wp2
      go_ret
      exact ⟨ret_int (by rw [List.take_of_length_le (by omega)]), hb⟩

end Go.Proofs.YtfmokccoilgpmaaGreatDoor
