/- append of one element as one step of a region that draws its order. No program stands here. -/
import Derived.Test.YtajohphiclbjkaaDoorRRLib
import Derived.Deep.RegionLaw
namespace Go.Own
set_option linter.unusedVariables false
open Go.RowKit

theorem step_append_one {P : Program} {ops : Array Oper} {o : Oper} {a : Act} {w : World} {K : Act → World → Prop} {Q : Exit → Act → World → Prop} {E : Prop}
    (hgd : o.guard = none) (s x : Operand) (t : TypeId)
    (ho : o.op = .call { callee := .builtin .append, args := #[s, x], argTypes := #[t, t] })
    (w0 : World) (hb0 : Below w0.heap.size w0 w)
    (e : TypeId) (z : Value) (size bytes : Nat) (ht : P.underlying t = some (.slice e)) (hinfo : (P.info? e).map (fun i => (i.zero, i.size, i.bytes)) = some (some z, size, bytes)) (hzs : z.cells.size = size) (hsz : 0 < size)
    (a0 : Option Addr) (n c0 : Nat) (xs us : List Value) (hus : us.length = size) (h1 : ∀ u ∈ us, u.oneCell' = true)
    (hs : a.eval s = .slice a0 n c0) (hown0 : w.ownsRow w0.heap.size e size (.slice a0 n c0) n xs)
    (hx : a.eval x = .slice (some ⟨w.heap.size, 0, none⟩) 1 1)
    (hbytes : (n + 1) * bytes ≤ 140737488355328) (h63 : n + 1 ≤ maxLen)
    (hK : ∀ a' cap' w', Below w0.heap.size w0 w' → w'.ownsRow w0.heap.size e size (.slice a' (n + 1) cap') (n + 1) (xs ++ us) → w.grownBy w' (blk a0) → (blk a' = blk a0 ∨ ∃ g, blk a' = some g ∧ w.heap.size ≤ g) →
      K (a.put o.dst (.slice a' (n + 1) cap')) w') :
    if Region.wanted o (yielded ops a.tmps) = true then Oper.wp P o a (w.alloc (.cells us.toArray e)) K Q else E := by
  have hw : Region.wanted o (yielded ops a.tmps) = true := by simp [Region.wanted, hgd]
  rw [if_pos hw]
  obtain ⟨i, hi, hz, hsize, hby⟩ := info_parts hinfo
  have hb : Below w0.heap.size w0 (w.alloc (.cells us.toArray e)) := hb0.alloc hb0.size _
  have hown := hown0.alloc (.cells us.toArray e)
  have hr := RdC_new w us e (0, 0)
  have hl : us.length = 1 * size := by rw [hus, Nat.one_mul]
  have hnews : ∀ j u, us[j]? = some u → (w.alloc (.cells us.toArray e)).cell? ((⟨w.heap.size, 0, none⟩ : Addr).add j) = some u := by
    intro j u hu
    have hj := (List.getElem?_eq_some_iff.1 hu).1
    obtain ⟨b, off, had, hcell⟩ := hr j hj
    have e := Option.some.inj had
    injection e with e1 e2
    subst e1 e2
    rw [Addr.add_lit, hcell, ← hu, List.getElem?_eq_getElem hj]
  obtain ⟨v', w', hrun, h2, h3, -⟩ := run_append_own (P := P) (w.alloc (.cells us.toArray e)) w0.heap.size t o.type e i z size bytes ht hi hz hsize hby hzs hsz _ n xs hown ⟨w.heap.size, 0, none⟩ 1 1 us hl hnews h1 h63 hbytes hb.size
  have h4 := append_where (w.alloc (.cells us.toArray e)) w0.heap.size t o.type e i z size bytes ht hi hz hsize hby _ n xs hown ⟨w.heap.size, 0, none⟩ 1 1 us hl hnews h1 h63 hbytes hrun
  unfold Oper.wp execOp
  simp only [ho, resolve, invoke, builtin, Sem.run_bind, Sem.run_pure, Result.andThen_ok, List.map_toArray, List.map_cons, List.map_nil, hs, hx, hrun]
  obtain ⟨a', cap', rfl, -, -, -⟩ := owned_slice h2
  rw [ownBlock_slice, ownBlock_slice] at h4
  rw [ownBlock_slice] at h3
  refine hK a' cap' w' (hb.grown h3 hb.size fun k hk => (hown.lt k (by rw [ownBlock_slice]; exact hk)).1) h2 (grownBy_trans (World.grownBy_alloc w _ _) h3) ?_
  rcases h4 with h4 | h4
  · exact Or.inl h4
  · exact Or.inr ⟨_, h4, by simp⟩

/-- the same, above a base -/
theorem step_append_oneb {P : Program} {ops : Array Oper} {o : Oper} {a : Act} {w : World} {K : Act → World → Prop} {Q : Exit → Act → World → Prop} {E : Prop}
    (hgd : o.guard = none) (s x : Operand) (t : TypeId)
    (ho : o.op = .call { callee := .builtin .append, args := #[s, x], argTypes := #[t, t] })
    (base : Nat) (hb0 : base ≤ w.heap.size)
    (e : TypeId) (z : Value) (size bytes : Nat) (ht : P.underlying t = some (.slice e)) (hinfo : (P.info? e).map (fun i => (i.zero, i.size, i.bytes)) = some (some z, size, bytes)) (hzs : z.cells.size = size) (hsz : 0 < size)
    (a0 : Option Addr) (n c0 : Nat) (xs us : List Value) (hus : us.length = size) (h1 : ∀ u ∈ us, u.oneCell' = true)
    (hs : a.eval s = .slice a0 n c0) (hown0 : w.ownsRow base e size (.slice a0 n c0) n xs)
    (hx : a.eval x = .slice (some ⟨w.heap.size, 0, none⟩) 1 1)
    (hbytes : (n + 1) * bytes ≤ 140737488355328) (h63 : n + 1 ≤ maxLen)
    (hK : ∀ a' cap' w', w'.ownsRow base e size (.slice a' (n + 1) cap') (n + 1) (xs ++ us) → w.grownBy w' (blk a0) → (blk a' = blk a0 ∨ ∃ g, blk a' = some g ∧ w.heap.size ≤ g) →
      K (a.put o.dst (.slice a' (n + 1) cap')) w') :
    if Region.wanted o (yielded ops a.tmps) = true then Oper.wp P o a (w.alloc (.cells us.toArray e)) K Q else E := by
  have hw : Region.wanted o (yielded ops a.tmps) = true := by simp [Region.wanted, hgd]
  rw [if_pos hw]
  obtain ⟨i, hi, hz, hsize, hby⟩ := info_parts hinfo
  have hb : base ≤ (w.alloc (.cells us.toArray e)).heap.size := by simp; omega
  have hown := hown0.alloc (.cells us.toArray e)
  have hr := RdC_new w us e (0, 0)
  have hl : us.length = 1 * size := by rw [hus, Nat.one_mul]
  have hnews : ∀ j u, us[j]? = some u → (w.alloc (.cells us.toArray e)).cell? ((⟨w.heap.size, 0, none⟩ : Addr).add j) = some u := by
    intro j u hu
    have hj := (List.getElem?_eq_some_iff.1 hu).1
    obtain ⟨b, off, had, hcell⟩ := hr j hj
    have e := Option.some.inj had
    injection e with e1 e2
    subst e1 e2
    rw [Addr.add_lit, hcell, ← hu, List.getElem?_eq_getElem hj]
  obtain ⟨v', w', hrun, h2, h3, -⟩ := run_append_own (P := P) (w.alloc (.cells us.toArray e)) base t o.type e i z size bytes ht hi hz hsize hby hzs hsz _ n xs hown ⟨w.heap.size, 0, none⟩ 1 1 us hl hnews h1 h63 hbytes hb
  have h4 := append_where (w.alloc (.cells us.toArray e)) base t o.type e i z size bytes ht hi hz hsize hby _ n xs hown ⟨w.heap.size, 0, none⟩ 1 1 us hl hnews h1 h63 hbytes hrun
  unfold Oper.wp execOp
  simp only [ho, resolve, invoke, builtin, Sem.run_bind, Sem.run_pure, Result.andThen_ok, List.map_toArray, List.map_cons, List.map_nil, hs, hx, hrun]
  obtain ⟨a', cap', rfl, -, -, -⟩ := owned_slice h2
  rw [ownBlock_slice, ownBlock_slice] at h4
  rw [ownBlock_slice] at h3
  refine hK a' cap' w' h2 (grownBy_trans (World.grownBy_alloc w _ _) h3) ?_
  rcases h4 with h4 | h4
  · exact Or.inl h4
  · exact Or.inr ⟨_, h4, by simp⟩
end Go.Own
