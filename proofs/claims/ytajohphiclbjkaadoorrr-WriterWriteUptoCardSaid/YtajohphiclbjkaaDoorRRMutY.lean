/- A []byte made by a conversion: its bytes may be written, it may be cut and appended to. No program stands here. -/
import Derived.Test.YtajohphiclbjkaaDoorRRLib
import Derived.ArgAppend
import Derived.Laws.IdiomCopy
namespace Go.Own
set_option linter.unusedVariables false
open Go.RowKit

/-- v is a slice of bytes from the head of a block above B, whose cells may be written to the end of its capacity -/
def MutY (B : Nat) (w : World) (v : Value) (l : List UInt8) : Prop :=
  ∃ g cap, v = .slice (some ⟨g, 0, none⟩) l.length cap ∧ B ≤ g ∧ g < w.heap.size ∧ l.length ≤ cap ∧ cap ≤ maxLen ∧ RdC w (some ⟨g, 0, none⟩) (bytesV l) ∧ ∀ j, j < cap → (w.cell? ⟨g, j, none⟩).isSome = true ∧ w.frozen? ⟨g, j, none⟩ = false
theorem MutY.rd {B : Nat} {w : World} {v : Value} {l : List UInt8} (h : MutY B w v l) : RdB w v l := by
  obtain ⟨g, cap, rfl, h1, h2, h3, h4, h5, h6⟩ := h
  exact ⟨_, cap, rfl, h3, h4, by simp, h5⟩
theorem MutY.below {B : Nat} {w w' : World} {v : Value} {l : List UInt8} (h : MutY B w v l) (hb : Below w.heap.size w w') : MutY B w' v l := by
  obtain ⟨g, cap, rfl, h1, h2, h3, h4, h5, h6⟩ := h
  refine ⟨g, cap, rfl, h1, Nat.lt_of_lt_of_le h2 hb.size, h3, h4, h5.below hb, fun j hj => ?_⟩
  rw [hb.cell (p := ⟨g, j, none⟩) h2, hb.frozen (p := ⟨g, j, none⟩) h2]
  exact h6 j hj
theorem MutY.mono {B B' : Nat} {w : World} {v : Value} {l : List UInt8} (h : MutY B w v l) (hB : B' ≤ B) : MutY B' w v l := by
  obtain ⟨g, cap, rfl, h1, h2⟩ := h
  exact ⟨g, cap, rfl, Nat.le_trans hB h1, h2⟩
theorem MutY.take {B : Nat} {w : World} {g n cap : Nat} {l : List UInt8} (h : MutY B w (.slice (some ⟨g, 0, none⟩) n cap) l) (k : Nat) (hk : k ≤ l.length) : MutY B w (.slice (some ⟨g, 0, none⟩) k cap) (l.take k) := by
  obtain ⟨g', cap', e, h1, h2, h3, h4, h5, h6⟩ := h
  cases e
  have hl : (l.take k).length = k := by rw [List.length_take]; omega
  refine ⟨g, cap, by rw [hl], h1, h2, by omega, h4, ?_, h6⟩
  have := h5.take k
  simpa [bytesV, List.map_take] using this
theorem MutY.cell {B : Nat} {w : World} {g n cap : Nat} {l : List UInt8} (h : MutY B w (.slice (some ⟨g, 0, none⟩) n cap) l) (k : Nat) (hk : k < l.length) : w.cell? ⟨g, k, none⟩ = some (.int .u8 (l[k].toNat : Int)) ∧ w.frozen? ⟨g, k, none⟩ = false := by
  obtain ⟨g', cap', e, h1, h2, h3, h4, h5, h6⟩ := h
  cases e
  obtain ⟨b, off, ha, hc⟩ := h5.byte k hk
  injection ha with ha
  injection ha with e1 e2
  subst e1 e2
  rw [Nat.zero_add] at hc
  exact ⟨hc, (h6 k (by omega)).2⟩
theorem MutY.set {B : Nat} {w : World} {g n cap : Nat} {l : List UInt8} (h : MutY B w (.slice (some ⟨g, 0, none⟩) n cap) l) (k : Nat) (hk : k < l.length) (c : UInt8) : MutY B (w.setCell ⟨g, k, none⟩ (.int .u8 (c.toNat : Int))) (.slice (some ⟨g, 0, none⟩) n cap) (l.set k c) := by
  have hc0 := (h.cell k hk).1
  obtain ⟨g', cap', e, h1, h2, h3, h4, h5, h6⟩ := h
  cases e
  refine ⟨g, cap, by rw [List.length_set], h1, by simpa using h2, by simpa using h3, h4, ?_, fun j hj => ?_⟩
  · intro j hj
    have hj' : j < l.length := by simpa [bytesV] using hj
    refine ⟨g, 0, rfl, ?_⟩
    obtain ⟨b, off, ha, hc⟩ := h5.byte j hj'
    injection ha with ha
    injection ha with e1 e2
    subst e1 e2
    by_cases e : j = k
    · subst e
      rw [Nat.zero_add, World.cell?_setCell_same _ _ _ hc0]
      simp [bytesV, byteV]
    · rw [World.cell?_setCell_other _ _ _ _ (by intro h; simp only [Addr.mk.injEq] at h; omega), hc]
      simp [bytesV, byteV, Ne.symm e]
  · obtain ⟨q1, q2⟩ := h6 j hj
    refine ⟨?_, by rw [World.frozen?_setCell]; exact q2⟩
    by_cases e : j = k
    · subst e; rw [World.cell?_setCell_same _ _ _ hc0]; rfl
    · rw [World.cell?_setCell_other _ _ _ _ (by intro h; simp only [Addr.mk.injEq] at h; omega)]; exact q1
theorem MutY.of_own {B : Nat} {w : World} {e : TypeId} {v : Value} {n : Nat} {l : List UInt8} (h : w.ownsRow B e 1 v n (bytesV l)) (h0 : 0 < n) : MutY B w v l := by
  obtain ⟨hn, h2⟩ := h
  have hl : l.length = n := by rw [bytesV_length] at hn; omega
  rcases h2 with ⟨-, h3⟩ | ⟨g, cap, cur, rfl, hb, hg, hnc, hcm, hcs, ht⟩
  · omega
  · have hgl := (Array.getElem?_eq_some_iff.1 hg).1
    refine ⟨g, cap, by rw [hl], hb, hgl, by omega, hcm, ?_, fun j hj => ⟨?_, frozen_of_row w g j _ _ hg⟩⟩
    · intro j hj
      refine ⟨g, 0, rfl, ?_⟩
      rw [Nat.zero_add, cell_of_row w g j _ _ _ hg]
      have hj2 : j < n * 1 := by rw [← hn]; exact hj
      have : (cur.toList.take (n * 1))[j]? = (bytesV l)[j]? := by rw [ht]
      rw [List.getElem?_take, if_pos hj2, List.getElem?_eq_getElem hj] at this
      rw [← this, Array.getElem?_toList]
    · rw [cell_of_row w g j _ _ _ hg, Array.getElem?_eq_getElem (by omega)]; rfl

theorem below_setCells {B g : Nat} {w0 : World} (hg : B ≤ g) : ∀ (vs : List Value) (o : Nat) (w : World), Below B w0 w → Below B w0 (w.setCells g o vs)
  | [], _, _, h => h
  | v :: r, o, w, h => below_setCells hg r (o + 1) _ (h.setCell hg v)
theorem size_setCells (g : Nat) : ∀ (vs : List Value) (o : Nat) (w : World), (w.setCells g o vs).heap.size = w.heap.size
  | [], _, _ => rfl
  | v :: r, o, w => by rw [World.setCells, size_setCells g r]; simp
theorem isSome_setCells (b : Nat) : ∀ (vs : List Value) (o : Nat) (w : World) (x : Addr), (w.cell? x).isSome = true → ((w.setCells b o vs).cell? x).isSome = true
  | [], _, _, _, h => h
  | v :: r, o, w, x, h => by
    rw [World.setCells]
    refine isSome_setCells b r (o + 1) _ x ?_
    by_cases e : x = ⟨b, o, none⟩
    · subst e
      obtain ⟨u, hu⟩ := Option.isSome_iff_exists.1 h
      rw [World.cell?_setCell_same _ _ _ hu]; rfl
    · rw [World.cell?_setCell_other _ _ _ _ (fun h => e h.symm)]; exact h

theorem run_append_nil_any {P : Program} (w : World) (t ty e : TypeId) (i : TypeInfo) (ht : P.underlying t = some (.slice e)) (hi : P.info? e = some i) (a : Option Addr) (n c : Nat) (hn : n ≤ c) (ha : a ≠ none) :
    (Builtin.append_ #[t, t] ty #[.slice a n c, .slice none 0 0]).run P w = .ok (.slice a n c) w := by
  cases a with
  | none => exact absurd rfl ha
  | some ad => simp [Builtin.append_, run_underlying ht, sizeOf, typeInfo, hi, Builtin.lenOf, Builtin.firstCells, loadCells, storeCells, hn]

/-- 'append(s, x...)' at bytes, s of a conversion's make -/
theorem wpList_append_mut {P : Program} {w w0 : World} {B : Nat} {ops : Array Oper} {rest : List Oper} {o : Oper} {a : Act} {Q : Exit → Act → World → Prop} (hgd : o.guard = none) (s x : Operand) (t : TypeId)
    (ho : o.op = .call { callee := .builtin .append, args := #[s, x], argTypes := #[t, t] }) (hb : Below B w0 w) (hB : B ≤ w.heap.size)
    (e : TypeId) (ht : P.underlying t = some (.slice e)) (hinfo : (P.info? e).map (fun i => (i.zero, i.size, i.bytes)) = some (some (.int .u8 0), 1, 1))
    (v : Value) (l : List UInt8) (hs : a.eval s = v) (hm : MutY B w v l)
    (ao : Option Addr) (m c : Nat) (news : List UInt8) (hx : a.eval x = .slice ao m c) (hl : news.length = m) (hnone : ao = none → c = 0) (hmc : m ≤ c) (hr : RdC w ao (bytesV news)) (hbytes : l.length + m ≤ 1000000000000)
    (hK : ∀ v' w', Below B w0 w' → MutY B w' v' (l ++ news) → wpList P ops Q rest (a.put o.dst v') w') : wpList P ops Q (o :: rest) a w := by
  obtain ⟨i, hi, hz, hsize, hby⟩ := info_parts hinfo
  have hmm := hm
  obtain ⟨g, cap, rfl, h1, h2, h3, h4, h5, h6⟩ := hm
  cases ao with
  | none =>
    obtain rfl := hnone rfl
    obtain rfl : m = 0 := by omega
    have hn : news = [] := List.eq_nil_of_length_eq_zero hl
    subst hn
    refine wpList_plain hgd fun K hK' => ?_
    have hrun := run_append_nil_any (P := P) w t o.type e i ht hi (some ⟨g, 0, none⟩) l.length cap h3 (by simp)
    unfold Oper.wp execOp
    simp only [ho, resolve, invoke, builtin, Sem.run_bind, Sem.run_pure, Result.andThen_ok, List.map_toArray, List.map_cons, List.map_nil, hs, hx, hrun]
    exact hK' _ _ (hK _ _ hb (by rw [List.append_nil]; exact hmm))
  | some ad =>
    have hcells : ∀ j u, (bytesV news)[j]? = some u → w.cell? (ad.add j) = some u := by
      intro j u hu
      have hj := (List.getElem?_eq_some_iff.1 hu).1
      obtain ⟨b, off, had, hcell⟩ := hr j hj
      obtain rfl := Option.some.inj had
      rw [Addr.add_lit, hcell, ← hu, List.getElem?_eq_getElem hj]
    have holds : ∀ j u, (bytesV l)[j]? = some u → w.cell? ⟨g, 0 + j, none⟩ = some u := by
      intro j u hu
      have hj := (List.getElem?_eq_some_iff.1 hu).1
      obtain ⟨b, off, had, hcell⟩ := h5 j hj
      injection had with had
      injection had with e1 e2
      subst e1 e2
      rw [hcell, ← hu, List.getElem?_eq_getElem hj]
    refine wpList_append_arg w hgd s x t ho e i (.int .u8 0) 1 1 ht hi hz hsize hby rfl (by omega) g 0 l.length cap (bytesV l) hs (by rw [bytesV_length, Nat.mul_one]) holds ad m c (bytesV news) hx (by rw [bytesV_length, hl, Nat.mul_one]) hcells (bytesV_one news) ?_ (by simp [maxLen]; omega) (by omega) ?_ ?_
    · intro hroom j hj
      rw [bytesV_length] at hj
      exact h6 _ (by omega)
    · intro hroom
      refine hK _ _ (below_setCells h1 _ _ _ hb) ⟨g, cap, by rw [List.length_append, hl], h1, by rw [size_setCells]; exact h2, by rw [List.length_append]; omega, h4, ?_, fun j hj => ⟨isSome_setCells _ _ _ _ _ (h6 j hj).1, by rw [World.frozen?_setCells]; exact (h6 j hj).2⟩⟩
      intro j hj
      refine ⟨g, 0, rfl, ?_⟩
      have hbl : bytesV (l ++ news) = bytesV l ++ bytesV news := List.map_append ..
      by_cases hjl : j < l.length
      · rw [World.cell?_setCells_out _ _ _ _ _ (by intro _ _; left; simp; omega)]
        obtain ⟨b, off, had, hcell⟩ := h5 j (by rw [bytesV_length]; exact hjl)
        injection had with had
        injection had with e1 e2
        subst e1 e2
        rw [hcell]
        simp only [hbl]
        rw [List.getElem_append_left]
      · have hj2 : j < l.length + news.length := by rw [bytesV_length, List.length_append] at hj; exact hj
        have hk : j - l.length < (bytesV news).length := by rw [bytesV_length]; omega
        have := World.cell?_setCells_in g (bytesV news) (0 + l.length * 1) w (fun i hi => (h6 (0 + l.length * 1 + i) (by rw [bytesV_length] at hi; omega)).1) (j - l.length) hk
        rw [show 0 + l.length * 1 + (j - l.length) = 0 + j by omega] at this
        rw [this]
        simp only [hbl]
        rw [List.getElem_append_right (by rw [bytesV_length]; omega)]
        simp only [bytesV_length]
    · intro hgrow v' w' hown hg
      have hown2 : w'.ownsRow w.heap.size e 1 v' (l.length + m) (bytesV (l ++ news)) := by
        have hbl : bytesV (l ++ news) = bytesV l ++ bytesV news := List.map_append ..
        rw [hbl]; exact hown
      exact hK _ _ (hb.grown hg hB fun k hk => by cases hk) ((MutY.of_own hown2 (by omega)).mono hB)

/-- '[]byte(s)', a slice that may be written and appended to -/
theorem wpList_strbytes_own {P : Program} {w : World} {ops : Array Oper} {rest : List Oper} {o : Oper} {a : Act} {Q : Exit → Act → World → Prop}
    (hg : Region.wanted o (yielded ops a.tmps) = true) (src dst : TypeId) (x : Operand) (hop : o.op = Op.convert src dst x) (s : ByteArray) (hx : a.eval x = .string s)
    (e : TypeId) (hs : P.underlying src = some .string) (hd : P.underlying dst = some (.slice e)) (he : P.underlying e = some (.int .u8))
    (hK : ∀ g cap w', Below w.heap.size w w' → MutY w.heap.size w' (.slice (some ⟨g, 0, none⟩) s.size cap) s.data.toList → wpList P ops Q rest (a.put o.dst (.slice (some ⟨g, 0, none⟩) s.size cap)) w')
    (hsz : s.size ≤ maxLen) : wpList P ops Q (o :: rest) a w := by
  refine wpList_w hg fun K hK' => ?_
  have hrun := run_bytes_of_string (P := P) w src dst e s hs hd he
  unfold Oper.wp
  simp [execOp, hop, hx, hrun, Result.andThen]
  have hcge := grownCap_ge w s.size 0 e
  have hcsz : (bytesRow s (grownCap w s.size 0 e)).size = grownCap w s.size 0 e := by
    have : s.data.size ≤ grownCap w s.size 0 e := hcge
    simp [bytesRow]; omega
  refine hK' _ _ (hK _ _ _ ((Below.refl _ _).drew.alloc (Nat.le_refl _) _) ⟨w.heap.size, grownCap w s.size 0 e, by rw [size_toList], Nat.le_refl _, by simp, by rw [← size_toList]; exact hcge, grownCap_le_maxLen _ _ _ _ hsz, ?_, ?_⟩)
  · intro k hk
    rw [bytesV_length, Array.length_toList] at hk
    have h1 := World.cell?_alloc_mark w.drew (bytesRow s (grownCap w s.size 0 e)) e ((bytesRow s (grownCap w s.size 0 e)).size, (bytesRow s (grownCap w s.size 0 e)).size + 1) k
    refine ⟨w.heap.size, 0, rfl, ?_⟩
    rw [Nat.zero_add]
    refine h1.trans ?_
    rw [bytesRow_at s _ k hk]
    simp [bytesV, byteV]
  · intro j hj
    have h1 := World.cell?_alloc_mark w.drew (bytesRow s (grownCap w s.size 0 e)) e ((bytesRow s (grownCap w s.size 0 e)).size, (bytesRow s (grownCap w s.size 0 e)).size + 1) j
    have h2 := World.frozen?_alloc_mark w.drew (bytesRow s (grownCap w s.size 0 e)) e (bytesRow s (grownCap w s.size 0 e)).size ((bytesRow s (grownCap w s.size 0 e)).size + 1) j
    refine ⟨?_, h2.trans ?_⟩
    · have h3 : (bytesRow s (grownCap w s.size 0 e))[j]? = some ((bytesRow s (grownCap w s.size 0 e))[j]'(by omega)) := Array.getElem?_eq_getElem (by omega)
      exact (congrArg Option.isSome (h1.trans h3)).trans rfl
    · simp only [Bool.and_eq_false_iff, decide_eq_false_iff_not]
      omega
end Go.Own
