/- canarymade.Source: Bytes and ID. -/
import Derived.Test.YtfmokccoilgpmaaGreatDoorSrcX
import Derived.Test.YtfmokccoilgpmaaGreatDoorNewID
namespace Go.Proofs.YtfmokccoilgpmaaGreatDoor
open Go.RowKit Go.Own
set_option linter.unusedVariables false
set_option maxHeartbeats 1000000


/-- a slice of bytes, made by the call: it is owned -/
def OwnY (B : Nat) (w : World) (v : Value) (l : List UInt8) : Prop := w.ownsRow B 5 1 v l.length (bytesV l)
theorem OwnY.rd {B : Nat} {w : World} {v : Value} {l : List UInt8} (h : OwnY B w v l) : RdB w v l := Rd_owned h
theorem OwnY.snoc {B : Nat} {w : World} {v : Value} {l : List UInt8} {c : UInt8} (h : w.ownsRow B 5 1 v (l.length + 1) (bytesV l ++ [.int .u8 (c.toNat : Int)])) : OwnY B w v (l ++ [c]) := by
  have e1 : (l ++ [c]).length = l.length + 1 := by simp
  have e2 : bytesV (l ++ [c]) = bytesV l ++ [.int .u8 (c.toNat : Int)] := by simp [bytesV, byteV]
  rw [OwnY, e1, e2]; exact h
def lettersB : ByteArray := ⟨#[97, 98, 13, 10, 48, 59, 32]⟩
theorem letters_at (k : Nat) (h : k < 7) : ∃ c : UInt8, (lettersB[k]'(by show k < 7; exact h)) = c := ⟨_, rfl⟩

theorem bytes_calls (p : Nat) (l : List Int) (m : Int) (w : World) (h : Src w p l) (hm : 0 ≤ m) (hm2 : m ≤ 1000000) :
    Calls Tryz.prog 54 #[.pointer (some ⟨p, 0, none⟩), .int .i64 m] w fun e w' => (∃ v, ∃ x : List UInt8, e = .returned v ∧ (x.length : Int) ≤ m ∧ OwnY w.heap.size w' v x) ∧ w.grownBy w' (some p) ∧ Src w' p l := by
  have hlt := h.lt
  go_enter Tryz.func54, Tryz.ntmps54
  go_wp2_with fail
  refine (next_calls p l (m + 1) _ h (by omega) (by omega)).mono ?_
  rintro e w1 ⟨⟨r, rfl, hr1, hr2⟩, hg, hs⟩
  have hsz := hg.size
  go_wp2
  go_loopw [5, 6] (fun v i wr => ∃ (x : List UInt8) (q : Int), i = .int .i64 q ∧ 0 ≤ q ∧ q + (x.length : Int) = r ∧ OwnY w.heap.size wr v x ∧ w.grownBy wr (some p) ∧ Src wr p l) (fun _ i _ => (intOf i).toNat)
  case atStart => exact ⟨[], r, rfl, hr1, by simp, World.ownsRow_nil _ _ _ _, hg, hs⟩
  case round =>
    clear hg hs hsz
    obtain ⟨x, q, rfl, hq, hqx, hown, hg, hs⟩ := hrel
    obtain ⟨a0, c0, rfl, -, -, -⟩ := owned_slice hown
    have hsz := hg.size
    by_cases hq0 : 0 < q
    · have hroom : (x.length + 1) * 1 ≤ 140737488355328 := by omega
      have hroom2 : x.length + 1 ≤ maxLen := by simp [maxLen]; omega
      have hq6 : q ≤ 1000000 := by omega
      have HQ := Lib.hid hqx
      clear hqx
      go_wp2_with fail
      refine (next_calls p l 7 _ hs (by omega) (by omega)).mono ?_
      rintro e w2 ⟨⟨t, rfl, ht1, ht2⟩, hg2, hs2⟩
      obtain ⟨k, rfl⟩ := Int.eq_ofNat_of_zero_le ht1
      have hk : k < 7 := by omega
      have hown2 : OwnY w.heap.size w2 (.slice a0 x.length c0) x := hown.kept hg2 (by
        cases e : (Value.slice a0 x.length c0).ownBlock with
        | none => exact Or.inl rfl
        | some k => right; intro e2; have := (hown.lt k e).1; have := Option.some.inj e2; omega)
      have hg3 := grownBy_trans hg hg2
      have hsz2 := hg3.size
      clear hown hg hg2 ht1
      have hkz : k < (⟨#[97, 98, 13, 10, 48, 59, 32]⟩ : ByteArray).size := hk
      obtain ⟨c, hc0, hc⟩ := byte_split (⟨#[97, 98, 13, 10, 48, 59, 32]⟩ : ByteArray) k hkz
      have HC0 := Lib.hid hc0
      clear hc0
      go_wp2_with (at_builtin; refine wpList_append_oneb rfl (.tmp 15) (.tmp 19) 33 rfl w.heap.size hsz2 5 (.int .u8 0) 1 1 Tryz.underlying33 info_u8 rfl (by decide) a0 x.length c0 (bytesV x) [.int .u8 (c.toNat : Int)] rfl (by intro u hu; rw [List.mem_singleton] at hu; subst hu; rfl) rfl hown2 rfl hroom hroom2 ?_; intro a1 c1 w3 hown3 hg4 hw4)
      have hg5 := grownBy_own hg3 hg4 (by intro k hk; exact (hown2.lt k (by rw [ownBlock_slice]; exact hk)).1)
      have hs3 := src_own hs2 hg4 (by intro k hk; have := (hown2.lt k (by rw [ownBlock_slice]; exact hk)).1; omega)
      have hq := HQ.out
      go_roundw
      case rel => exact ⟨x ++ [c], q - 1, by go_num, by omega, by simp; omega, OwnY.snoc hown3, hg5, hs3⟩
      case measure => simp [intOf]; omega
    · have hq1 : q = 0 := by omega
      have hxl : (x.length : Int) ≤ m := by omega
      subst hq1
      clear hqx hq0
      go_wp2
      go_ret
      exact ⟨⟨_, x, rfl, hxl, hown⟩, hg, hs⟩

theorem sid_calls (p : Nat) (l : List Int) (w : World) (h : Src w p l) :
    Calls Tryz.prog 53 #[.pointer (some ⟨p, 0, none⟩)] w fun e w' => (∃ n, e = .returned (.string (idOf n))) ∧ w.grownBy w' (some p) ∧ Src w' p l := by
  go_enter Tryz.func53, Tryz.ntmps53
  go_wp2_with fail
  refine (next_calls p l 8 _ h (by omega) (by omega)).mono ?_
  rintro e w1 ⟨⟨r, rfl, hr1, hr2⟩, hg, hs⟩
  have HC := Lib.hid (refNewID_calls r 7 w1 ⟨by omega, by omega⟩ ⟨by omega, by omega⟩)
  generalize (hsum [bs (digs 10 r.toNat), bs (digs 10 (7 : Int).toNat)]).toNat = n at HC
  go_wp2_with fail
  refine HC.out.mono ?_
  rintro e w2 ⟨rfl, hb⟩
  have hg2 := grownBy_trans hg (grownBy_below hb _)
  have hs2 := hs.grown hb
  go_wp2
  go_ret
  exact ⟨⟨n, rfl⟩, hg2, hs2⟩
end Go.Proofs.YtfmokccoilgpmaaGreatDoor
