/- slices.Grow, Concat and Clone at []byte. -/
import Derived.Test.YtajohphiclbjkaaDoorRRX06
import Derived.Test.YtajohphiclbjkaaDoorRRSrcB
namespace Go.Proofs.YtajohphiclbjkaaDoorRR
open Go.RowKit Go.Own
set_option linter.unusedVariables false
set_option maxHeartbeats 1000000

theorem lenB (l : List UInt8) : (bytesV l).length = l.length * 1 := by rw [bytesV_length, Nat.mul_one]
theorem bytesV_append (a b : List UInt8) : bytesV (a ++ b) = bytesV a ++ bytesV b := List.map_append ..
theorem OwnY.base {w : World} {B B' : Nat} {v : Value} {l : List UInt8} (h : OwnY B w v l) (hB : B' ≤ B) : OwnY B' w v l := by
  obtain ⟨h1, h2⟩ := h
  refine ⟨h1, ?_⟩
  rcases h2 with h2 | ⟨g, cap, cur, q1, q2, q3⟩
  · exact Or.inl h2
  · exact Or.inr ⟨g, cap, cur, q1, Nat.le_trans hB q2, q3⟩

theorem growB_calls (n : Nat) (m : Int) (w : World) (hm : m = n) (hn : n ≤ 200000000000) :
    Calls Tryd.prog 135 #[.slice none 0 0, .int .i64 m] w fun e w' => (∃ v, e = .returned v ∧ OwnY w.heap.size w' v []) ∧ Below w.heap.size w w' := by
  subst hm
  have h1 : ¬ ((n : Int) < 0) := by omega
  by_cases h0 : n = 0
  · subst h0
    go_enter Tryd.func135, Tryd.ntmps135
    go_wp2
    go_ret
    exact ⟨⟨_, rfl, World.ownsRow_nil _ _ _ _⟩, Below.refl _ _⟩
  · have h2 : (0 : Int) < n := by omega
    go_enter Tryd.func135, Tryd.ntmps135
    go_wp2_with (at_builtin; refine wpList_append_made rfl (.tmp 20) (.tmp 21) 25 3 rfl 5 (.int .u8 0) 1 1 .i64 Tryd.underlying25 Tryd.underlying3 info_u8 rfl (by decide) rfl .i64 n rfl (by omega) (by omega) (by omega) ?_; intro capb w1 hb1 hcb hown1)
    go_ret
    exact ⟨⟨_, rfl, hown1⟩, hb1⟩

theorem concatB_calls (p : Nat) (a1 a2 : Option Addr) (c1 c2 : Nat) (x y : List UInt8) (w : World) (hp0 : w.cell? ⟨p, 0, none⟩ = some (.slice a1 x.length c1)) (hp1 : w.cell? ⟨p, 1, none⟩ = some (.slice a2 y.length c2))
    (Hx : RdB w (.slice a1 x.length c1) x) (Hy : RdB w (.slice a2 y.length c2) y) (h1 : x.length ≤ 100000000000) (h2 : y.length ≤ 100000000000) :
    Calls Tryd.prog 113 #[.slice (some ⟨p, 0, none⟩) 2 2] w fun e w' => (∃ v, e = .returned v ∧ OwnY w.heap.size w' v (x ++ y)) ∧ Below w.heap.size w w' := by
  obtain ⟨_, _, e1, h11, h12, h13, hr1⟩ := Hx
  cases e1
  obtain ⟨_, _, e2, h21, h22, h23, hr2⟩ := Hy
  cases e2
  have l1 := lenB x
  have l2 := lenB y
  go_enter Tryd.func113, Tryd.ntmps113
  go_wp2
  refine wp_loop_rounds 3 ?_
  rw [rounds_succ]
  go_wp2
  rw [rounds_succ]
  go_wp2
  rw [rounds_succ]
  go_wp2_with fail
  refine (growB_calls (x.length + y.length) _ _ (by simp) (by omega)).mono ?_
  rintro e w1 ⟨⟨v, rfl, hown⟩, hb1⟩
  have p0 := cell_below hb1 hp0
  have p1 := cell_below hb1 hp1
  have HP1 := Lib.hid hp1
  obtain ⟨a0, c0, rfl, -, -, -⟩ := owned_slice hown
  clear hp0 hp1
  go_wp2
  refine wp_loop_rounds 3 ?_
  rw [rounds_succ]
  go_wp2_with (at_builtin; refine wpList_append_rd rfl (.tmp 31) (.tmp 32) 25 rfl w hb1 5 (.int .u8 0) 1 1 Tryd.underlying25 info_u8 rfl (by decide) a0 0 c0 [] rfl hown a1 x.length c1 (bytesV x) rfl l1 h13 h11 (hr1.below hb1) (bytesV_one x) (by omega) (by simp [maxLen]; omega) ?_; intro a3 c3 w3 hb3 hown3 hg3 hw3)
  have q1 := cell_below hb3 HP1.out
  have hown4 : w3.ownsRow w.heap.size 5 1 (.slice a3 x.length c3) x.length (bytesV x) := by simpa using hown3
  clear hown3 p0 p1
  rw [rounds_succ]
  go_wp2_with (at_builtin; refine wpList_append_rd rfl (.tmp 31) (.tmp 32) 25 rfl w hb3 5 (.int .u8 0) 1 1 Tryd.underlying25 info_u8 rfl (by decide) a3 x.length c3 (bytesV x) rfl hown4 a2 y.length c2 (bytesV y) rfl l2 h23 h21 (hr2.below hb3) (bytesV_one y) (by omega) (by simp [maxLen]; omega) ?_; intro a4 c4 w4 hb4 hown5 hg4 hw4)
  have H4 : OwnY w.heap.size w4 (.slice a4 (x.length + y.length) c4) (x ++ y) := by
    have e1 : (x ++ y).length = 0 + x.length + y.length := by simp
    rw [OwnY, e1, bytesV_append]
    simpa using hown5
  rw [rounds_succ]
  clear hown hown5 hown4 hg3 hg4 hw3 hw4 l1 l2
  go_wp2
  go_ret
  exact ⟨⟨_, rfl, H4⟩, hb4⟩

end Go.Proofs.YtajohphiclbjkaaDoorRR
