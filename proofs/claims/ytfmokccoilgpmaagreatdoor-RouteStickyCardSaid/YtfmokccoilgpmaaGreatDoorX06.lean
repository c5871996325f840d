/- With of package field and of its reference; FieldWithout's core. -/
import Derived.Test.YtfmokccoilgpmaaGreatDoorW06
import Derived.Lib.AppendZeros
import Derived.LoopN
import Derived.Outline
namespace Go.Proofs.YtfmokccoilgpmaaGreatDoor
open Go.RowKit Go.Own
set_option linter.unusedVariables false
set_option maxHeartbeats 1000000



/-- 'append(nil, make([]T, n)...)': a new row of which the first no element is taken -/
theorem wpList_append_made {P : Program} {w : World} {ops : Array Oper} {rest : List Oper} {o : Oper} {a : Act} {Q : Exit → Act → World → Prop} (hgd : Region.wanted o (yielded ops a.tmps) = true) (s x : Operand) (t tn : TypeId)
    (ho : o.op = .call { callee := .builtin .append, args := #[s, x], argTypes := #[t, tn] })
    (e : TypeId) (z : Value) (size bytes : Nat) (kn : IntKind) (ht : P.underlying t = some (.slice e)) (htn : P.underlying tn = some (.int kn)) (hinfo : (P.info? e).map (fun i => (i.zero, i.size, i.bytes)) = some (some z, size, bytes)) (hzs : z.cells.size = size) (hsz : 0 < size)
    (hs : a.eval s = .slice none 0 0) (k : IntKind) (n : Nat) (hx : a.eval x = .int k n) (h0 : 0 < n) (hbytes : n * bytes ≤ 281474976710656) (h63 : n ≤ 9223372036854775807)
    (hK : ∀ cap w', Below w.heap.size w w' → n ≤ cap → w'.ownsRow w.heap.size e size (.slice (some ⟨w.heap.size, 0, none⟩) 0 cap) 0 [] → wpList P ops Q rest (a.put o.dst (.slice (some ⟨w.heap.size, 0, none⟩) n cap)) w') : wpList P ops Q (o :: rest) a w := by
  obtain ⟨i, hi, hz, hsize, hby⟩ := info_parts hinfo
  refine wpList_w hgd fun K hK' => ?_
  have hrun := Lib.run_append_nil_zeros (P := P) w t tn o.type e i z k kn ht htn hi hz n h0 (by omega) (by omega) (by rw [hby]; exact hbytes)
  unfold Oper.wp execOp
  simp only [ho, resolve, invoke, builtin, Sem.run_bind, Sem.run_pure, Result.andThen_ok, List.map_toArray, List.map_cons, List.map_nil, hs, hx, hrun]
  refine hK' _ _ (hK _ _ ((Below.refl _ _).drew.alloc (Nat.le_refl _) _) (grownCap_ge _ _ _ _) ?_)
  refine ⟨by simp, Or.inr ⟨w.heap.size, _, _, rfl, Nat.le_refl _, Array.getElem?_push_size, Nat.zero_le _, grownCap_le_maxLen _ _ _ _ (by simpa [maxLen] using h63), ?_, by simp⟩⟩
  have hge := grownCap_ge w n 0 e
  rw [Array.size_append, size_zeroCells, size_zeroCells, hzs, ← Nat.add_mul]
  congr 1
  omega

theorem grow_calls (n : Nat) (m : Int) (w : World) (hm : m = n) (hn : n ≤ 200000000) :
    Calls Tryz.prog 129 #[.slice none 0 0, .int .i64 m] w fun e w' => (∃ v, e = .returned v ∧ OwnF w.heap.size w' v []) ∧ Below w.heap.size w w' := by
  subst hm
  have h1 : ¬ ((n : Int) < 0) := by omega
  by_cases h0 : n = 0
  · subst h0
    go_enter Tryz.func129, Tryz.ntmps129
    go_wp2
    go_ret
    exact ⟨⟨_, rfl, World.ownsRow_nil _ _ _ _⟩, Below.refl _ _⟩
  · have h2 : (0 : Int) < n := by omega
    go_enter Tryz.func129, Tryz.ntmps129
    go_wp2_with (at_builtin; refine wpList_append_made rfl (.tmp 20) (.tmp 21) 23 3 rfl 45 (.agg #[.string .empty, .string .empty]) 2 32 .i64 Tryz.underlying23 Tryz.underlying3 info_fld rfl (by decide) rfl .i64 n rfl (by omega) (by omega) (by omega) ?_; intro capb w1 hb1 hcb hown1)
    go_ret
    exact ⟨⟨_, rfl, hown1⟩, hb1⟩

theorem OwnF.base {w : World} {B B' : Nat} {v : Value} {l : List Fld} (h : OwnF B w v l) (hB : B' ≤ B) : OwnF B' w v l := by
  obtain ⟨h1, h2⟩ := h
  refine ⟨h1, ?_⟩
  rcases h2 with h2 | ⟨g, cap, cur, q1, q2, q3⟩
  · exact Or.inl h2
  · exact Or.inr ⟨g, cap, cur, q1, Nat.le_trans hB q2, q3⟩

theorem concat_calls (p : Nat) (a1 a2 : Option Addr) (c1 c2 : Nat) (x y : List Fld) (w : World) (hp0 : w.cell? ⟨p, 0, none⟩ = some (.slice a1 x.length c1)) (hp1 : w.cell? ⟨p, 1, none⟩ = some (.slice a2 y.length c2))
    (Hx : RdF w (.slice a1 x.length c1) x) (Hy : RdF w (.slice a2 y.length c2) y) (h1 : x.length ≤ 100000000) (h2 : y.length ≤ 100000000) :
    Calls Tryz.prog 113 #[.slice (some ⟨p, 0, none⟩) 2 2] w fun e w' => (∃ v, e = .returned v ∧ OwnF w.heap.size w' v (x ++ y)) ∧ Below w.heap.size w w' := by
  obtain ⟨_, _, e1, h11, h12, h13, hr1⟩ := Hx
  cases e1
  obtain ⟨_, _, e2, h21, h22, h23, hr2⟩ := Hy
  cases e2
  have l1 := fieldsV_length x
  have l2 := fieldsV_length y
  go_enter Tryz.func113, Tryz.ntmps113
  go_wp2
  refine wp_loop_rounds 3 ?_
  rw [rounds_succ]
  go_wp2
  rw [rounds_succ]
  go_wp2
  rw [rounds_succ]
  go_wp2_with fail
  refine (grow_calls (x.length + y.length) _ _ (by simp) (by omega)).mono ?_
  rintro e w1 ⟨⟨v, rfl, hown⟩, hb1⟩
  have p0 := cell_below hb1 hp0
  have p1 := cell_below hb1 hp1
  have HP1 := Lib.hid hp1
  obtain ⟨a0, c0, rfl, -, -, -⟩ := owned_slice hown
  clear hp0 hp1
  go_wp2
  refine wp_loop_rounds 3 ?_
  rw [rounds_succ]
  go_wp2_with (at_builtin; refine wpList_append_rd rfl (.tmp 31) (.tmp 32) 23 rfl w hb1 45 (.agg #[.string .empty, .string .empty]) 2 32 Tryz.underlying23 info_fld rfl (by decide) a0 0 c0 [] rfl hown a1 x.length c1 (fieldsV x) rfl l1 h13 h11 (hr1.below hb1) (fieldsV_one x) (by omega) (by simp [maxLen]; omega) ?_; intro a3 c3 w3 hb3 hown3 hg3 hw3)
  have q1 := cell_below hb3 HP1.out
  have hown4 : w3.ownsRow w.heap.size 45 2 (.slice a3 x.length c3) x.length (fieldsV x) := by simpa using hown3
  clear hown3 p0 p1
  rw [rounds_succ]
  go_wp2_with (at_builtin; refine wpList_append_rd rfl (.tmp 31) (.tmp 32) 23 rfl w hb3 45 (.agg #[.string .empty, .string .empty]) 2 32 Tryz.underlying23 info_fld rfl (by decide) a3 x.length c3 (fieldsV x) rfl hown4 a2 y.length c2 (fieldsV y) rfl l2 h23 h21 (hr2.below hb3) (fieldsV_one y) (by omega) (by simp [maxLen]; omega) ?_; intro a4 c4 w4 hb4 hown5 hg4 hw4)
  have H4 : OwnF w.heap.size w4 (.slice a4 (x.length + y.length) c4) (x ++ y) := by
    have e1 : (x ++ y).length = 0 + x.length + y.length := by simp
    rw [OwnF, e1, fieldsV_append]
    simpa using hown5
  rw [rounds_succ]
  clear hown hown5 hown4 hg3 hg4 hw3 hw4 l1 l2
  go_wp2
  go_ret
  exact ⟨⟨_, rfl, H4⟩, hb4⟩

theorem cellN (w : World) (cs : Array Value) (T : TypeId) (j : Nat) : (w.alloc (.cells cs T)).cell? ⟨w.heap.size, j, none⟩ = cs[j]? := (keptN (Below.refl _ _) j).1

theorem with_calls (va vb : Value) (x y : List Fld) (w : World) (Hx : RdF w va x) (Hy : RdF w vb y) (h1 : x.length ≤ 100000000) (h2 : y.length ≤ 100000000) :
    Calls Tryz.prog 92 #[va, vb] w fun e w' => (∃ v, e = .returned v ∧ OwnF w.heap.size w' v (x ++ y)) ∧ Below w.heap.size w w' := by
  obtain ⟨a1, c1, rfl, h11, h12, h13, hr1⟩ := id Hx
  obtain ⟨a2, c2, rfl, h21, h22, h23, hr2⟩ := id Hy
  go_enter Tryz.func92, Tryz.ntmps92
  go_wp2_with fail
  refine (concat_calls w.heap.size a1 a2 c1 c2 x y _ (cellN w _ _ 0) (cellN w _ _ 1) (Hx.below ((Below.refl _ _).alloc (Nat.le_refl _) _)) (Hy.below ((Below.refl _ _).alloc (Nat.le_refl _) _)) h1 h2).mono ?_
  rintro e w1 ⟨⟨v, rfl, hown⟩, hb⟩
  have hbw := kept_below hb
  have hown2 := OwnF.base hown (Nat.le_trans (Nat.le_succ w.heap.size) (by simp))
  clear hown hb
  go_wp2
  go_ret
  exact ⟨⟨_, rfl, hown2⟩, hbw⟩
end Go.Proofs.YtfmokccoilgpmaaGreatDoor
