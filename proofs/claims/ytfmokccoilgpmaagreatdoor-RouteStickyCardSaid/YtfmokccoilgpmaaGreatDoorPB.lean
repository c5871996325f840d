/- A []byte made by a conversion: its bytes may be written, it may be cut and appended to. No program stands here. A region that draws its order, whose callees make memory but hand back one value each: one walk, in the order of the text. No program stands here. append of one element as one step of a region that draws its order. No program stands here. A region that draws its order, with slots that are read before they are written (Step's law, extended). No program stands here. -/
import Derived.Test.YtfmokccoilgpmaaGreatDoorLib
import Derived.ArgAppend
import Derived.Laws.IdiomCopy
import Derived.BigQuiet
import Derived.Deep.RegionLaw
import Derived.Orders
import Derived.Deep.Draws
/-! A []byte made by a conversion: its bytes may be written, it may be cut and appended to. No program stands here. -/
namespace Go.Own
set_option linter.unusedVariables false
open Go.RowKit

/-- v is a slice of bytes from the head of a block above B, whose cells may be written to the end of its capacity -/
def MutY (B : Nat) (w : World) (v : Value) (l : List UInt8) : Prop :=
  ∃ g cap, v = .slice (some ⟨g, 0, none⟩) l.length cap ∧ B ≤ g ∧ g < w.heap.size ∧ l.length ≤ cap ∧ cap ≤ maxLen ∧ RdC w (some ⟨g, 0, none⟩) (bytesV l) ∧ ∀ j, j < cap → (w.cell? ⟨g, j, none⟩).isSome = true ∧ w.frozen? ⟨g, j, none⟩ = false
theorem MutY.rd {B : Nat} {w : World} {v : Value} {l : List UInt8} (h : MutY B w v l) : RdB w v l := by
  obtain ⟨g, cap, rfl, h1, h2, h3, h4, h5, h6⟩ := h
  exact ⟨_, cap, rfl, h3, h4, by simp, h5⟩
theorem MutY.below {B : Nat} {w w' : World} {v : Value} {l : List UInt8} (h : MutY B w v l) (hb : Below w.heap.size w w') : MutY B w' v l := by
  obtain ⟨g, cap, rfl, h1, h2, h3, h4, h5, h6⟩ := h
  refine ⟨g, cap, rfl, h1, Nat.lt_of_lt_of_le h2 hb.size, h3, h4, h5.below hb, fun j hj => ?_⟩
  rw [hb.cell (p := ⟨g, j, none⟩) h2, hb.frozen (p := ⟨g, j, none⟩) h2]
  exact h6 j hj
theorem MutY.mono {B B' : Nat} {w : World} {v : Value} {l : List UInt8} (h : MutY B w v l) (hB : B' ≤ B) : MutY B' w v l := by
  obtain ⟨g, cap, rfl, h1, h2⟩ := h
  exact ⟨g, cap, rfl, Nat.le_trans hB h1, h2⟩
theorem MutY.take {B : Nat} {w : World} {g n cap : Nat} {l : List UInt8} (h : MutY B w (.slice (some ⟨g, 0, none⟩) n cap) l) (k : Nat) (hk : k ≤ l.length) : MutY B w (.slice (some ⟨g, 0, none⟩) k cap) (l.take k) := by
  obtain ⟨g', cap', e, h1, h2, h3, h4, h5, h6⟩ := h
  cases e
  have hl : (l.take k).length = k := by rw [List.length_take]; omega
  refine ⟨g, cap, by rw [hl], h1, h2, by omega, h4, ?_, h6⟩
  have := h5.take k
  simpa [bytesV, List.map_take] using this
theorem MutY.cell {B : Nat} {w : World} {g n cap : Nat} {l : List UInt8} (h : MutY B w (.slice (some ⟨g, 0, none⟩) n cap) l) (k : Nat) (hk : k < l.length) : w.cell? ⟨g, k, none⟩ = some (.int .u8 (l[k].toNat : Int)) ∧ w.frozen? ⟨g, k, none⟩ = false := by
  obtain ⟨g', cap', e, h1, h2, h3, h4, h5, h6⟩ := h
  cases e
  obtain ⟨b, off, ha, hc⟩ := h5.byte k hk
  injection ha with ha
  injection ha with e1 e2
  subst e1 e2
  rw [Nat.zero_add] at hc
  exact ⟨hc, (h6 k (by omega)).2⟩
theorem MutY.set {B : Nat} {w : World} {g n cap : Nat} {l : List UInt8} (h : MutY B w (.slice (some ⟨g, 0, none⟩) n cap) l) (k : Nat) (hk : k < l.length) (c : UInt8) : MutY B (w.setCell ⟨g, k, none⟩ (.int .u8 (c.toNat : Int))) (.slice (some ⟨g, 0, none⟩) n cap) (l.set k c) := by
  have hc0 := (h.cell k hk).1
  obtain ⟨g', cap', e, h1, h2, h3, h4, h5, h6⟩ := h
  cases e
  refine ⟨g, cap, by rw [List.length_set], h1, by simpa using h2, by simpa using h3, h4, ?_, fun j hj => ?_⟩
  · intro j hj
    have hj' : j < l.length := by simpa [bytesV] using hj
    refine ⟨g, 0, rfl, ?_⟩
    obtain ⟨b, off, ha, hc⟩ := h5.byte j hj'
    injection ha with ha
    injection ha with e1 e2
    subst e1 e2
    by_cases e : j = k
    · subst e
      rw [Nat.zero_add, World.cell?_setCell_same _ _ _ hc0]
      simp [bytesV, byteV]
    · rw [World.cell?_setCell_other _ _ _ _ (by intro h; simp only [Addr.mk.injEq] at h; omega), hc]
      simp [bytesV, byteV, Ne.symm e]
  · obtain ⟨q1, q2⟩ := h6 j hj
    refine ⟨?_, by rw [World.frozen?_setCell]; exact q2⟩
    by_cases e : j = k
    · subst e; rw [World.cell?_setCell_same _ _ _ hc0]; rfl
    · rw [World.cell?_setCell_other _ _ _ _ (by intro h; simp only [Addr.mk.injEq] at h; omega)]; exact q1
theorem MutY.of_own {B : Nat} {w : World} {e : TypeId} {v : Value} {n : Nat} {l : List UInt8} (h : w.ownsRow B e 1 v n (bytesV l)) (h0 : 0 < n) : MutY B w v l := by
  obtain ⟨hn, h2⟩ := h
  have hl : l.length = n := by rw [bytesV_length] at hn; omega
  rcases h2 with ⟨-, h3⟩ | ⟨g, cap, cur, rfl, hb, hg, hnc, hcm, hcs, ht⟩
  · omega
  · have hgl := (Array.getElem?_eq_some_iff.1 hg).1
    refine ⟨g, cap, by rw [hl], hb, hgl, by omega, hcm, ?_, fun j hj => ⟨?_, frozen_of_row w g j _ _ hg⟩⟩
    · intro j hj
      refine ⟨g, 0, rfl, ?_⟩
      rw [Nat.zero_add, cell_of_row w g j _ _ _ hg]
      have hj2 : j < n * 1 := by rw [← hn]; exact hj
      have : (cur.toList.take (n * 1))[j]? = (bytesV l)[j]? := by rw [ht]
      rw [List.getElem?_take, if_pos hj2, List.getElem?_eq_getElem hj] at this
      rw [← this, Array.getElem?_toList]
    · rw [cell_of_row w g j _ _ _ hg, Array.getElem?_eq_getElem (by omega)]; rfl

theorem below_setCells {B g : Nat} {w0 : World} (hg : B ≤ g) : ∀ (vs : List Value) (o : Nat) (w : World), Below B w0 w → Below B w0 (w.setCells g o vs)
  | [], _, _, h => h
  | v :: r, o, w, h => below_setCells hg r (o + 1) _ (h.setCell hg v)
theorem size_setCells (g : Nat) : ∀ (vs : List Value) (o : Nat) (w : World), (w.setCells g o vs).heap.size = w.heap.size
  | [], _, _ => rfl
  | v :: r, o, w => by rw [World.setCells, size_setCells g r]; simp
theorem isSome_setCells (b : Nat) : ∀ (vs : List Value) (o : Nat) (w : World) (x : Addr), (w.cell? x).isSome = true → ((w.setCells b o vs).cell? x).isSome = true
  | [], _, _, _, h => h
  | v :: r, o, w, x, h => by
    rw [World.setCells]
    refine isSome_setCells b r (o + 1) _ x ?_
    by_cases e : x = ⟨b, o, none⟩
    · subst e
      obtain ⟨u, hu⟩ := Option.isSome_iff_exists.1 h
      rw [World.cell?_setCell_same _ _ _ hu]; rfl
    · rw [World.cell?_setCell_other _ _ _ _ (fun h => e h.symm)]; exact h

theorem run_append_nil_any {P : Program} (w : World) (t ty e : TypeId) (i : TypeInfo) (ht : P.underlying t = some (.slice e)) (hi : P.info? e = some i) (a : Option Addr) (n c : Nat) (hn : n ≤ c) (ha : a ≠ none) :
    (Builtin.append_ #[t, t] ty #[.slice a n c, .slice none 0 0]).run P w = .ok (.slice a n c) w := by
  cases a with
  | none => exact absurd rfl ha
  | some ad => simp [Builtin.append_, run_underlying ht, sizeOf, typeInfo, hi, Builtin.lenOf, Builtin.firstCells, loadCells, storeCells, hn]

/-- 'append(s, x...)' at bytes, s of a conversion's make -/
theorem wpList_append_mut {P : Program} {w w0 : World} {B : Nat} {ops : Array Oper} {rest : List Oper} {o : Oper} {a : Act} {Q : Exit → Act → World → Prop} (hgd : o.guard = none) (s x : Operand) (t : TypeId)
    (ho : o.op = .call { callee := .builtin .append, args := #[s, x], argTypes := #[t, t] }) (hb : Below B w0 w) (hB : B ≤ w.heap.size)
    (e : TypeId) (ht : P.underlying t = some (.slice e)) (hinfo : (P.info? e).map (fun i => (i.zero, i.size, i.bytes)) = some (some (.int .u8 0), 1, 1))
    (v : Value) (l : List UInt8) (hs : a.eval s = v) (hm : MutY B w v l)
    (ao : Option Addr) (m c : Nat) (news : List UInt8) (hx : a.eval x = .slice ao m c) (hl : news.length = m) (hnone : ao = none → c = 0) (hmc : m ≤ c) (hr : RdC w ao (bytesV news)) (hbytes : l.length + m ≤ 1000000000000)
    (hK : ∀ v' w', Below B w0 w' → MutY B w' v' (l ++ news) → wpList P ops Q rest (a.put o.dst v') w') : wpList P ops Q (o :: rest) a w := by
  obtain ⟨i, hi, hz, hsize, hby⟩ := info_parts hinfo
  have hmm := hm
  obtain ⟨g, cap, rfl, h1, h2, h3, h4, h5, h6⟩ := hm
  cases ao with
  | none =>
    obtain rfl := hnone rfl
    obtain rfl : m = 0 := by omega
    have hn : news = [] := List.eq_nil_of_length_eq_zero hl
    subst hn
    refine wpList_plain hgd fun K hK' => ?_
    have hrun := run_append_nil_any (P := P) w t o.type e i ht hi (some ⟨g, 0, none⟩) l.length cap h3 (by simp)
    unfold Oper.wp execOp
    simp only [ho, resolve, invoke, builtin, Sem.run_bind, Sem.run_pure, Result.andThen_ok, List.map_toArray, List.map_cons, List.map_nil, hs, hx, hrun]
    exact hK' _ _ (hK _ _ hb (by rw [List.append_nil]; exact hmm))
  | some ad =>
    have hcells : ∀ j u, (bytesV news)[j]? = some u → w.cell? (ad.add j) = some u := by
      intro j u hu
      have hj := (List.getElem?_eq_some_iff.1 hu).1
      obtain ⟨b, off, had, hcell⟩ := hr j hj
      obtain rfl := Option.some.inj had
      rw [Addr.add_lit, hcell, ← hu, List.getElem?_eq_getElem hj]
    have holds : ∀ j u, (bytesV l)[j]? = some u → w.cell? ⟨g, 0 + j, none⟩ = some u := by
      intro j u hu
      have hj := (List.getElem?_eq_some_iff.1 hu).1
      obtain ⟨b, off, had, hcell⟩ := h5 j hj
      injection had with had
      injection had with e1 e2
      subst e1 e2
      rw [hcell, ← hu, List.getElem?_eq_getElem hj]
    refine wpList_append_arg w hgd s x t ho e i (.int .u8 0) 1 1 ht hi hz hsize hby rfl (by omega) g 0 l.length cap (bytesV l) hs (by rw [bytesV_length, Nat.mul_one]) holds ad m c (bytesV news) hx (by rw [bytesV_length, hl, Nat.mul_one]) hcells (bytesV_one news) ?_ (by simp [maxLen]; omega) (by omega) ?_ ?_
    · intro hroom j hj
      rw [bytesV_length] at hj
      exact h6 _ (by omega)
    · intro hroom
      refine hK _ _ (below_setCells h1 _ _ _ hb) ⟨g, cap, by rw [List.length_append, hl], h1, by rw [size_setCells]; exact h2, by rw [List.length_append]; omega, h4, ?_, fun j hj => ⟨isSome_setCells _ _ _ _ _ (h6 j hj).1, by rw [World.frozen?_setCells]; exact (h6 j hj).2⟩⟩
      intro j hj
      refine ⟨g, 0, rfl, ?_⟩
      have hbl : bytesV (l ++ news) = bytesV l ++ bytesV news := List.map_append ..
      by_cases hjl : j < l.length
      · rw [World.cell?_setCells_out _ _ _ _ _ (by intro _ _; left; simp; omega)]
        obtain ⟨b, off, had, hcell⟩ := h5 j (by rw [bytesV_length]; exact hjl)
        injection had with had
        injection had with e1 e2
        subst e1 e2
        rw [hcell]
        simp only [hbl]
        rw [List.getElem_append_left]
      · have hj2 : j < l.length + news.length := by rw [bytesV_length, List.length_append] at hj; exact hj
        have hk : j - l.length < (bytesV news).length := by rw [bytesV_length]; omega
        have := World.cell?_setCells_in g (bytesV news) (0 + l.length * 1) w (fun i hi => (h6 (0 + l.length * 1 + i) (by rw [bytesV_length] at hi; omega)).1) (j - l.length) hk
        rw [show 0 + l.length * 1 + (j - l.length) = 0 + j by omega] at this
        rw [this]
        simp only [hbl]
        rw [List.getElem_append_right (by rw [bytesV_length]; omega)]
        simp only [bytesV_length]
    · intro hgrow v' w' hown hg
      have hown2 : w'.ownsRow w.heap.size e 1 v' (l.length + m) (bytesV (l ++ news)) := by
        have hbl : bytesV (l ++ news) = bytesV l ++ bytesV news := List.map_append ..
        rw [hbl]; exact hown
      exact hK _ _ (hb.grown hg hB fun k hk => by cases hk) ((MutY.of_own hown2 (by omega)).mono hB)

/-- '[]byte(s)', a slice that may be written and appended to -/
theorem wpList_strbytes_own {P : Program} {w : World} {ops : Array Oper} {rest : List Oper} {o : Oper} {a : Act} {Q : Exit → Act → World → Prop}
    (hg : Region.wanted o (yielded ops a.tmps) = true) (src dst : TypeId) (x : Operand) (hop : o.op = Op.convert src dst x) (s : ByteArray) (hx : a.eval x = .string s)
    (e : TypeId) (hs : P.underlying src = some .string) (hd : P.underlying dst = some (.slice e)) (he : P.underlying e = some (.int .u8))
    (hK : ∀ g cap w', Below w.heap.size w w' → MutY w.heap.size w' (.slice (some ⟨g, 0, none⟩) s.size cap) s.data.toList → wpList P ops Q rest (a.put o.dst (.slice (some ⟨g, 0, none⟩) s.size cap)) w')
    (hsz : s.size ≤ maxLen) : wpList P ops Q (o :: rest) a w := by
  refine wpList_w hg fun K hK' => ?_
  have hrun := run_bytes_of_string (P := P) w src dst e s hs hd he
  unfold Oper.wp
  simp [execOp, hop, hx, hrun, Result.andThen]
  have hcge := grownCap_ge w s.size 0 e
  have hcsz : (bytesRow s (grownCap w s.size 0 e)).size = grownCap w s.size 0 e := by
    have : s.data.size ≤ grownCap w s.size 0 e := hcge
    simp [bytesRow]; omega
  refine hK' _ _ (hK _ _ _ ((Below.refl _ _).drew.alloc (Nat.le_refl _) _) ⟨w.heap.size, grownCap w s.size 0 e, by rw [size_toList], Nat.le_refl _, by simp, by rw [← size_toList]; exact hcge, grownCap_le_maxLen _ _ _ _ hsz, ?_, ?_⟩)
  · intro k hk
    rw [bytesV_length, Array.length_toList] at hk
    have h1 := World.cell?_alloc_mark w.drew (bytesRow s (grownCap w s.size 0 e)) e ((bytesRow s (grownCap w s.size 0 e)).size, (bytesRow s (grownCap w s.size 0 e)).size + 1) k
    refine ⟨w.heap.size, 0, rfl, ?_⟩
    rw [Nat.zero_add]
    refine h1.trans ?_
    rw [bytesRow_at s _ k hk]
    simp [bytesV, byteV]
  · intro j hj
    have h1 := World.cell?_alloc_mark w.drew (bytesRow s (grownCap w s.size 0 e)) e ((bytesRow s (grownCap w s.size 0 e)).size, (bytesRow s (grownCap w s.size 0 e)).size + 1) j
    have h2 := World.frozen?_alloc_mark w.drew (bytesRow s (grownCap w s.size 0 e)) e (bytesRow s (grownCap w s.size 0 e)).size ((bytesRow s (grownCap w s.size 0 e)).size + 1) j
    refine ⟨?_, h2.trans ?_⟩
    · have h3 : (bytesRow s (grownCap w s.size 0 e))[j]? = some ((bytesRow s (grownCap w s.size 0 e))[j]'(by omega)) := Array.getElem?_eq_getElem (by omega)
      exact (congrArg Option.isSome (h1.trans h3)).trans rfl
    · simp only [Bool.and_eq_false_iff, decide_eq_false_iff_not]
      omega
end Go.Own

/-! A region that draws its order, whose callees make memory but hand back one value each: one walk, in the order of the text. No program stands here. -/
namespace Go.Own
set_option linter.unusedVariables false
open Go.RowKit

/-- a world in which everything that w0 had is as it was -/
structure After (w0 : World) where
  now : World
  h : Below w0.heap.size w0 now

instance (w0 : World) : Nonempty (After w0) := ⟨⟨w0, Below.refl _ _⟩⟩

theorem After.keep {w0 : World} {p : Addr} {v : Value} (h : w0.cell? p = some v) (x : After w0) : x.now.cell? p = some v :=
  (x.h.cell (World.block_lt_of_cell? w0 p h)).trans h

theorem wp_region_below {P : Program} {id : Nat} {Q : Exit → Act → World → Prop} {a : Act} {w : World} {l : List Oper} (hm : P.follows .mixedOrders = true) (hB : Region.lexB .any l.toArray = true)
    (h : wpQuiet P l.toArray (fun w' => ∃ x : After w, w' = x.now) (fun a' => ∀ w', (∃ x : After w, w' = x.now) → Q .normal a' w') l a) : (Code.region id l.toArray true).wp P Q a w :=
  wp_region_quiet (C := fun w' => ∃ x : After w, w' = x.now) hm hB ⟨⟨w.drew, (Below.refl _ _).drew⟩, rfl⟩ (by simpa using h)

theorem After.call {P : Program} {f : FuncId} {args : Array Value} {w0 : World} {x : After w0} {v : Value}
    (h : Calls P f args x.now fun e w' => e = .returned v ∧ Below x.now.heap.size x.now w') : Calls P f args x.now fun e w' => e = .returned v ∧ ∃ y : After w0, w' = y.now :=
  h.mono fun _ w' ⟨he, hb⟩ => ⟨he, ⟨w', Below.self_trans x.h hb⟩, rfl⟩
theorem After.same {P : Program} {f : FuncId} {args : Array Value} {w0 : World} {x : After w0} {v : Value}
    (h : Calls P f args x.now fun e w' => e = .returned v ∧ x.now = w') : Calls P f args x.now fun e w' => e = .returned v ∧ ∃ y : After w0, w' = y.now :=
  h.mono fun _ w' ⟨he, hb⟩ => ⟨he, x, hb.symm⟩

/-- 'string(b)', as one equation -/
theorem conv_bytes {P : Program} {w : World} {src dst e : TypeId} (hs : P.underlying src = some (.slice e)) (he : P.underlying e = some (.int .u8)) (hd : P.underlying dst = some .string)
    {ao : Option Addr} {n cap : Nat} {l : List UInt8} (hn : n = l.length) (hr : RdC w ao (bytesV l)) : (convert src dst (.slice ao n cap)).run P w = .ok (.string ⟨l.toArray⟩) w := by
  subst hn
  cases ao with
  | none =>
    have hl : l = [] := by
      cases l with
      | nil => rfl
      | cons c l => obtain ⟨b, off, h, -⟩ := hr 0 (by simp [bytesV]); cases h
    subst hl
    rw [run_convert_bytes_string w src dst e none _ cap hs he hd]
    rfl
  | some ad =>
    refine run_convert_bytes_back w src dst e ad cap l hs he hd ?_
    intro j hj
    obtain ⟨b, off, had, hc⟩ := hr.byte j hj
    obtain rfl := Option.some.inj had
    rw [Addr.add_lit]
    exact hc
theorem After.conv {P : Program} {w0 : World} {src dst e : TypeId} (hs : P.underlying src = some (.slice e)) (he : P.underlying e = some (.int .u8)) (hd : P.underlying dst = some .string)
    {ao : Option Addr} {n cap : Nat} {l : List UInt8} (hn : n = l.length) (hr : RdC w0 ao (bytesV l)) (x : After w0) : (convert src dst (.slice ao n cap)).run P x.now = .ok (.string ⟨l.toArray⟩) x.now :=
  conv_bytes hs he hd hn (hr.below x.h)
end Go.Own

/-! append of one element as one step of a region that draws its order. No program stands here. -/
namespace Go.Own
set_option linter.unusedVariables false
open Go.RowKit

theorem step_append_one {P : Program} {ops : Array Oper} {o : Oper} {a : Act} {w : World} {K : Act → World → Prop} {Q : Exit → Act → World → Prop} {E : Prop}
    (hgd : o.guard = none) (s x : Operand) (t : TypeId)
    (ho : o.op = .call { callee := .builtin .append, args := #[s, x], argTypes := #[t, t] })
    (w0 : World) (hb0 : Below w0.heap.size w0 w)
    (e : TypeId) (z : Value) (size bytes : Nat) (ht : P.underlying t = some (.slice e)) (hinfo : (P.info? e).map (fun i => (i.zero, i.size, i.bytes)) = some (some z, size, bytes)) (hzs : z.cells.size = size) (hsz : 0 < size)
    (a0 : Option Addr) (n c0 : Nat) (xs us : List Value) (hus : us.length = size) (h1 : ∀ u ∈ us, u.oneCell' = true)
    (hs : a.eval s = .slice a0 n c0) (hown0 : w.ownsRow w0.heap.size e size (.slice a0 n c0) n xs)
    (hx : a.eval x = .slice (some ⟨w.heap.size, 0, none⟩) 1 1)
    (hbytes : (n + 1) * bytes ≤ 140737488355328) (h63 : n + 1 ≤ maxLen)
    (hK : ∀ a' cap' w', Below w0.heap.size w0 w' → w'.ownsRow w0.heap.size e size (.slice a' (n + 1) cap') (n + 1) (xs ++ us) → w.grownBy w' (blk a0) → (blk a' = blk a0 ∨ ∃ g, blk a' = some g ∧ w.heap.size ≤ g) →
      K (a.put o.dst (.slice a' (n + 1) cap')) w') :
    if Region.wanted o (yielded ops a.tmps) = true then Oper.wp P o a (w.alloc (.cells us.toArray e)) K Q else E := by
  have hw : Region.wanted o (yielded ops a.tmps) = true := by simp [Region.wanted, hgd]
  rw [if_pos hw]
  obtain ⟨i, hi, hz, hsize, hby⟩ := info_parts hinfo
  have hb : Below w0.heap.size w0 (w.alloc (.cells us.toArray e)) := hb0.alloc hb0.size _
  have hown := hown0.alloc (.cells us.toArray e)
  have hr := RdC_new w us e (0, 0)
  have hl : us.length = 1 * size := by rw [hus, Nat.one_mul]
  have hnews : ∀ j u, us[j]? = some u → (w.alloc (.cells us.toArray e)).cell? ((⟨w.heap.size, 0, none⟩ : Addr).add j) = some u := by
    intro j u hu
    have hj := (List.getElem?_eq_some_iff.1 hu).1
    obtain ⟨b, off, had, hcell⟩ := hr j hj
    have e := Option.some.inj had
    injection e with e1 e2
    subst e1 e2
    rw [Addr.add_lit, hcell, ← hu, List.getElem?_eq_getElem hj]
  obtain ⟨v', w', hrun, h2, h3, -⟩ := run_append_own (P := P) (w.alloc (.cells us.toArray e)) w0.heap.size t o.type e i z size bytes ht hi hz hsize hby hzs hsz _ n xs hown ⟨w.heap.size, 0, none⟩ 1 1 us hl hnews h1 h63 hbytes hb.size
  have h4 := append_where (w.alloc (.cells us.toArray e)) w0.heap.size t o.type e i z size bytes ht hi hz hsize hby _ n xs hown ⟨w.heap.size, 0, none⟩ 1 1 us hl hnews h1 h63 hbytes hrun
  unfold Oper.wp execOp
  simp only [ho, resolve, invoke, builtin, Sem.run_bind, Sem.run_pure, Result.andThen_ok, List.map_toArray, List.map_cons, List.map_nil, hs, hx, hrun]
  obtain ⟨a', cap', rfl, -, -, -⟩ := owned_slice h2
  rw [ownBlock_slice, ownBlock_slice] at h4
  rw [ownBlock_slice] at h3
  refine hK a' cap' w' (hb.grown h3 hb.size fun k hk => (hown.lt k (by rw [ownBlock_slice]; exact hk)).1) h2 (grownBy_trans (World.grownBy_alloc w _ _) h3) ?_
  rcases h4 with h4 | h4
  · exact Or.inl h4
  · exact Or.inr ⟨_, h4, by simp⟩

/-- the same, above a base -/
theorem step_append_oneb {P : Program} {ops : Array Oper} {o : Oper} {a : Act} {w : World} {K : Act → World → Prop} {Q : Exit → Act → World → Prop} {E : Prop}
    (hgd : o.guard = none) (s x : Operand) (t : TypeId)
    (ho : o.op = .call { callee := .builtin .append, args := #[s, x], argTypes := #[t, t] })
    (base : Nat) (hb0 : base ≤ w.heap.size)
    (e : TypeId) (z : Value) (size bytes : Nat) (ht : P.underlying t = some (.slice e)) (hinfo : (P.info? e).map (fun i => (i.zero, i.size, i.bytes)) = some (some z, size, bytes)) (hzs : z.cells.size = size) (hsz : 0 < size)
    (a0 : Option Addr) (n c0 : Nat) (xs us : List Value) (hus : us.length = size) (h1 : ∀ u ∈ us, u.oneCell' = true)
    (hs : a.eval s = .slice a0 n c0) (hown0 : w.ownsRow base e size (.slice a0 n c0) n xs)
    (hx : a.eval x = .slice (some ⟨w.heap.size, 0, none⟩) 1 1)
    (hbytes : (n + 1) * bytes ≤ 140737488355328) (h63 : n + 1 ≤ maxLen)
    (hK : ∀ a' cap' w', w'.ownsRow base e size (.slice a' (n + 1) cap') (n + 1) (xs ++ us) → w.grownBy w' (blk a0) → (blk a' = blk a0 ∨ ∃ g, blk a' = some g ∧ w.heap.size ≤ g) →
      K (a.put o.dst (.slice a' (n + 1) cap')) w') :
    if Region.wanted o (yielded ops a.tmps) = true then Oper.wp P o a (w.alloc (.cells us.toArray e)) K Q else E := by
  have hw : Region.wanted o (yielded ops a.tmps) = true := by simp [Region.wanted, hgd]
  rw [if_pos hw]
  obtain ⟨i, hi, hz, hsize, hby⟩ := info_parts hinfo
  have hb : base ≤ (w.alloc (.cells us.toArray e)).heap.size := by simp; omega
  have hown := hown0.alloc (.cells us.toArray e)
  have hr := RdC_new w us e (0, 0)
  have hl : us.length = 1 * size := by rw [hus, Nat.one_mul]
  have hnews : ∀ j u, us[j]? = some u → (w.alloc (.cells us.toArray e)).cell? ((⟨w.heap.size, 0, none⟩ : Addr).add j) = some u := by
    intro j u hu
    have hj := (List.getElem?_eq_some_iff.1 hu).1
    obtain ⟨b, off, had, hcell⟩ := hr j hj
    have e := Option.some.inj had
    injection e with e1 e2
    subst e1 e2
    rw [Addr.add_lit, hcell, ← hu, List.getElem?_eq_getElem hj]
  obtain ⟨v', w', hrun, h2, h3, -⟩ := run_append_own (P := P) (w.alloc (.cells us.toArray e)) base t o.type e i z size bytes ht hi hz hsize hby hzs hsz _ n xs hown ⟨w.heap.size, 0, none⟩ 1 1 us hl hnews h1 h63 hbytes hb
  have h4 := append_where (w.alloc (.cells us.toArray e)) base t o.type e i z size bytes ht hi hz hsize hby _ n xs hown ⟨w.heap.size, 0, none⟩ 1 1 us hl hnews h1 h63 hbytes hrun
  unfold Oper.wp execOp
  simp only [ho, resolve, invoke, builtin, Sem.run_bind, Sem.run_pure, Result.andThen_ok, List.map_toArray, List.map_cons, List.map_nil, hs, hx, hrun]
  obtain ⟨a', cap', rfl, -, -, -⟩ := owned_slice h2
  rw [ownBlock_slice, ownBlock_slice] at h4
  rw [ownBlock_slice] at h3
  refine hK a' cap' w' h2 (grownBy_trans (World.grownBy_alloc w _ _) h3) ?_
  rcases h4 with h4 | h4
  · exact Or.inl h4
  · exact Or.inr ⟨_, h4, by simp⟩
end Go.Own

/-! ### A region that draws its order, each of whose operations keeps a word of its own on the value it yields: one proof an operation, whatever the order -/
namespace Go.Own
set_option linter.unusedVariables false

/-- each operation has a place of its own for its value, and follows only earlier ones -/
def specOk (ops : Array Oper) (n : Nat) : Bool :=
  (List.range ops.size).all fun i => match ops[i]? with
    | some o => (match o.dst with
      | some d => decide (d < n) && (List.range ops.size).all (fun j => j == i || ((ops[j]?).bind (·.dst)) != some d)
      | none => false) && o.after.all (fun e => decide (e.on < i))
    | none => false
/-- the value of an operation -/
def valOf (o : Oper) (a : Act) : Value := match o.dst with
  | some d => a.tmps.getD d undef
  | none => undef
/-- no operation of the region writes this place -/
def idle (ops : Array Oper) (s : Nat) : Bool := ops.toList.all fun o => o.dst != some s
/-- what the region leaves alone -/
def Kept (ops : Array Oper) (a0 a : Act) : Prop := a.defers = a0.defers ∧ a.tmps.size = a0.tmps.size ∧ ∀ s, idle ops s = true → a.tmps.getD s undef = a0.tmps.getD s undef
/-- does o wait for operation j? -/
def needs (md : Region.Mode) (o : Oper) (j : Nat) : Bool := o.after.toList.any fun e => Region.binds md e && e.on == j
/-- one operation does what is said of it -/
def StepOk (P : Program) (md : Region.Mode) (ops : Array Oper) (Q : Exit → Act → World → Prop) (Le : World → World → Prop) (Sp : Nat → Value → World → Prop) (a0 : Act) (w0 : World) (i : Nat) (o : Oper) : Prop :=
  ∀ a w, Le w0 w → Kept ops a0 a → (∀ j oj, ops[j]? = some oj → needs md o j = true → Sp j (valOf oj a) w) →
    if Region.wanted o (yielded ops a.tmps) = true then ∀ K : Act → World → Prop, (∀ v w', Le w w' → Sp i v w' → K (a.put o.dst v) w') → o.wp P a w K Q else Sp i undef w

section
variable {P : Program} {md : Region.Mode} {ops : Array Oper} {Q : Exit → Act → World → Prop} {Le : World → World → Prop} {Sp : Nat → Value → World → Prop} {a0 : Act} {w0 : World} {n : Nat}

theorem specOk_at (h : specOk ops n = true) {i : Nat} {o : Oper} (hi : ops[i]? = some o) :
    ∃ d, o.dst = some d ∧ d < n ∧ (∀ (j : Nat) (oj : Oper), ops[j]? = some oj → j ≠ i → oj.dst ≠ some d) ∧ ∀ e ∈ o.after, e.on < i := by
  have hlt : i < ops.size := (Array.getElem?_eq_some_iff.1 hi).1
  have h1 := List.all_eq_true.1 h i (List.mem_range.2 hlt)
  rw [hi] at h1
  simp only [Bool.and_eq_true] at h1
  obtain ⟨h1, h2⟩ := h1
  cases hd : o.dst with
  | none => rw [hd] at h1; cases h1
  | some d =>
    rw [hd] at h1
    simp only [Bool.and_eq_true, decide_eq_true_eq] at h1
    refine ⟨d, rfl, h1.1, ?_, ?_⟩
    · intro j oj hj hne e
      have h3 := List.all_eq_true.1 h1.2 j (List.mem_range.2 (Array.getElem?_eq_some_iff.1 hj).1)
      rw [hj] at h3
      simp [hne, e] at h3
    · intro e he
      have := Array.all_eq_true_iff_forall_mem.1 h2 e he
      simpa using this

/-- nothing may come up: all are listed -/
theorem all_listed (h : specOk ops n = true) {listed : Array Bool} (hs : listed.size = ops.size) (hr : Region.ready md ops listed = []) : ∀ i, i < ops.size → listed.getD i false = true := by
  intro i
  induction i using Nat.strongRecOn with
  | ind i ih =>
    intro hi
    cases hl : listed.getD i false with
    | true => rfl
    | false =>
      exfalso
      obtain ⟨d, -, -, -, haft⟩ := specOk_at h (Array.getElem?_eq_getElem hi)
      have hm : i ∈ Region.ready md ops listed := by
        unfold Region.ready
        refine List.mem_filter.2 ⟨List.mem_range.2 hi, ?_⟩
        have hl2 : listed.getD i true = false := by
          have hi2 : i < listed.size := by omega
          simp only [Array.getD, hi2, dif_pos] at hl ⊢
          exact hl
        rw [hl2, Array.getElem?_eq_getElem hi]
        simp only [Bool.not_false, Bool.true_and, Option.map_some, Option.getD_some]
        refine Array.all_eq_true_iff_forall_mem.2 fun e he => ?_
        have := haft e he
        rw [ih e.on this (by omega)]
        simp
      rw [hr] at hm
      cases hm

/-- where the region stands -/
def SpecAt (Le : World → World → Prop) (ops : Array Oper) (Sp : Nat → Value → World → Prop) (a0 : Act) (w0 : World) (listed : Array Bool) (a : Act) (w : World) : Prop :=
  listed.size = ops.size ∧ Le w0 w ∧ Kept ops a0 a ∧ ∀ j oj, ops[j]? = some oj → listed.getD j false = true → Sp j (valOf oj a) w

theorem specAt_put (h : specOk ops n = true) (hn : a0.tmps.size = n) (htr : ∀ x y z, Le x y → Le y z → Le x z) (hm : ∀ j v x y, Le x y → Sp j v x → Sp j v y) {listed : Array Bool} {a : Act} {w w' : World} {i : Nat} {o : Oper} {v : Value} (hi : ops[i]? = some o) (hI : SpecAt Le ops Sp a0 w0 listed a w) (hw : Le w w') (hv : Sp i v w') :
    SpecAt Le ops Sp a0 w0 (listed.setIfInBounds i true) (a.put o.dst v) w' := by
  obtain ⟨d, hd, hdn, hne, -⟩ := specOk_at h hi
  obtain ⟨h1, h2, ⟨k1, k2, k3⟩, h4⟩ := hI
  have hput : a.put o.dst v = { a with tmps := a.tmps.setIfInBounds d v } := by rw [hd]; rfl
  have hdl : d < a.tmps.size := by rw [k2, hn]; exact hdn
  rw [hput]
  refine ⟨by simpa using h1, htr _ _ _ h2 hw, ⟨k1, by simpa using k2, ?_⟩, ?_⟩
  · intro s hs
    rw [← k3 s hs]
    have hsd : d ≠ s := by
      intro e
      have := List.all_eq_true.1 hs o (Array.mem_of_getElem? hi).val
      rw [hd, e] at this
      simp at this
    simp only [Array.getD_eq_getD_getElem?, Array.getElem?_setIfInBounds_ne hsd]
  · intro j oj hj hl
    by_cases hji : j = i
    · subst hji
      obtain rfl : o = oj := by rw [hi] at hj; exact Option.some.inj hj
      have : valOf o { a with tmps := a.tmps.setIfInBounds d v } = v := by
        unfold valOf
        rw [hd]
        simp [Array.getD_eq_getD_getElem?, hdl]
      rw [this]; exact hv
    · have hl2 : listed.getD j false = true := by
        rw [Array.getD_eq_getD_getElem?, Array.getElem?_setIfInBounds_ne (Ne.symm hji)] at hl
        rw [Array.getD_eq_getD_getElem?]; exact hl
      have : valOf oj { a with tmps := a.tmps.setIfInBounds d v } = valOf oj a := by
        unfold valOf
        cases hdj : oj.dst with
        | none => rfl
        | some dj =>
          have hdd : d ≠ dj := fun e => hne j oj hj hji (by rw [hdj, e])
          simp only [Array.getD_eq_getD_getElem?, Array.getElem?_setIfInBounds_ne hdd]
      rw [this]
      exact hm _ _ _ _ hw (h4 j oj hj hl2)

theorem wpAny_spec (h : specOk ops n = true) (hn : a0.tmps.size = n) (htr : ∀ x y z, Le x y → Le y z → Le x z) (hm : ∀ j v x y, Le x y → Sp j v x → Sp j v y) (hrf : ∀ x, Le x x)
    (hst : ∀ i o, ops[i]? = some o → StepOk P md ops Q Le Sp a0 w0 i o) (hQ : ∀ a w, Le w0 w → Kept ops a0 a → (∀ j oj, ops[j]? = some oj → Sp j (valOf oj a) w) → Q .normal a w) :
    ∀ (fuel : Nat) (listed : Array Bool) (a : Act) (w : World), listed.toList.countP (· == false) ≤ fuel → SpecAt Le ops Sp a0 w0 listed a w → wpAny P md ops Q fuel listed a w := by
  have fin : ∀ (listed : Array Bool) (a : Act) (w : World), Region.ready md ops listed = [] → SpecAt Le ops Sp a0 w0 listed a w → Q .normal a w := by
    intro listed a w hr hI
    exact hQ a w hI.2.1 hI.2.2.1 fun j oj hj => hI.2.2.2 j oj hj (all_listed h hI.1 hr j (Array.getElem?_eq_some_iff.1 hj).1)
  have rdy : ∀ (listed : Array Bool) (i : Nat), i ∈ Region.ready md ops listed → ∃ o, ops[i]? = some o ∧ listed.getD i true = false ∧ ∀ e ∈ o.after, Region.binds md e = true → listed.getD e.on false = true := by
    intro listed i hi
    unfold Region.ready at hi
    obtain ⟨h1, h2⟩ := List.mem_filter.1 hi
    have hlt := List.mem_range.1 h1
    rw [Array.getElem?_eq_getElem hlt] at h2 ⊢
    simp only [Option.map_some, Option.getD_some, Bool.and_eq_true, Bool.not_eq_true'] at h2
    refine ⟨_, rfl, h2.1, fun e he hb => ?_⟩
    have := Array.all_eq_true_iff_forall_mem.1 h2.2 e he
    simpa [hb] using this
  intro fuel
  induction fuel with
  | zero =>
    intro listed a w hc hI
    have hr : Region.ready md ops listed = [] := by
      cases hr : Region.ready md ops listed with
      | nil => rfl
      | cons i r =>
        obtain ⟨o, ho, hl, -⟩ := rdy listed i (by rw [hr]; exact List.mem_cons_self ..)
        have hlt : i < listed.size := by
          by_cases hlt : i < listed.size
          · exact hlt
          · simp [Array.getD, hlt] at hl
        have hz : listed.toList.countP (· == false) = 0 := by omega
        rw [List.countP_eq_zero] at hz
        have := hz listed[i] (by simp)
        simp [Array.getD, hlt] at hl
        rw [hl] at this
        simp at this
    exact ⟨hr, fin _ _ _ hr hI⟩
  | succ fuel ih =>
    intro listed a w hc hI
    refine ⟨fun hr => fin _ _ _ hr hI, fun i hi => ?_⟩
    obtain ⟨o, ho, hl, haft⟩ := rdy listed i hi
    have hlt : i < listed.size := by
      by_cases hlt : i < listed.size
      · exact hlt
      · simp [Array.getD, hlt] at hl
    have hli : listed[i] = false := by simpa [Array.getD, hlt] using hl
    have hc2 : (listed.setIfInBounds i true).toList.countP (· == false) ≤ fuel := by
      rw [Array.toList_setIfInBounds, List.countP_set (by simpa using hlt)]
      have : listed.toList[i]'(by simpa using hlt) = false := by simpa using hli
      rw [this, if_pos (show (false == false) = true from rfl), if_neg (show ¬ (true == false) = true by decide)]
      omega
    have hs := hst i o ho a w hI.2.1 hI.2.2.1 (fun j oj hj hnd => by
      unfold needs at hnd
      obtain ⟨e, he, hb⟩ := List.any_eq_true.1 hnd
      simp only [Bool.and_eq_true, beq_iff_eq] at hb
      exact hI.2.2.2 j oj hj (by rw [← hb.2]; exact haft e (Array.mem_toList_iff.1 he) hb.1))
    unfold wpOp
    rw [ho]
    simp only
    by_cases hw : Region.wanted o (yielded ops a.tmps) = true
    · rw [if_pos hw] at hs ⊢
      exact Or.inl (hs _ fun v w' hle hv => ih _ _ _ hc2 (specAt_put h hn htr hm ho hI hle hv))
    · rw [if_neg hw] at hs ⊢
      exact ih _ _ _ hc2 (specAt_put h hn htr hm ho hI (hrf w) hs)

/-- the law: a region that draws its order -/
theorem wp_region_spec {id : Nat} (hmx : P.follows .mixedOrders = true) (h : specOk ops a0.tmps.size = true) (htr : ∀ x y z, Le x y → Le y z → Le x z) (hm : ∀ j v x y, Le x y → Sp j v x → Sp j v y) (hrf : ∀ x, Le x x)
    (hst : ∀ i o, ops[i]? = some o → StepOk P .any ops Q Le Sp a0 w0.drew i o) (hQ : ∀ a w, Le w0.drew w → Kept ops a0 a → (∀ j oj, ops[j]? = some oj → Sp j (valOf oj a) w) → Q .normal a w) :
    (Code.region id ops true).wp P Q a0 w0 := by
  refine wp_region_any hmx (wpAny_spec h rfl htr hm hrf hst hQ _ _ _ _ ?_ ⟨by simp, hrf _, ⟨rfl, rfl, fun _ _ => rfl⟩, ?_⟩)
  · simpa using List.countP_le_length (p := (· == false)) (l := List.replicate ops.size false)
  · intro j oj hj hl
    simp [Array.getD] at hl

theorem stepOk_val {i : Nat} {o : Oper} (h : ∀ a w, Le w0 w → Kept ops a0 a → (∀ j oj, ops[j]? = some oj → needs md o j = true → Sp j (valOf oj a) w) → Region.wanted o (yielded ops a.tmps) = true ∧ ∃ v w', (execOp a.eval o).run P w = .ok (.value v) w' ∧ Le w w' ∧ Sp i v w') : StepOk P md ops Q Le Sp a0 w0 i o := by
  intro a w hle hk hp
  obtain ⟨hw, v, w', hrun, hl, hs⟩ := h a w hle hk hp
  rw [if_pos hw]
  intro K hK
  unfold Oper.wp
  rw [hrun]
  exact hK v w' hl hs
theorem stepOk_call {i : Nat} {o : Oper} (h : ∀ a w, Le w0 w → Kept ops a0 a → (∀ j oj, ops[j]? = some oj → needs md o j = true → Sp j (valOf oj a) w) → Region.wanted o (yielded ops a.tmps) = true ∧ ∃ f args, (execOp a.eval o).run P w = .ok (.enter f args) w ∧ Calls P f args w fun e w' => ∃ v, e = .returned v ∧ Le w w' ∧ Sp i v w') : StepOk P md ops Q Le Sp a0 w0 i o := by
  intro a w hle hk hp
  obtain ⟨hw, f, args, hrun, hc⟩ := h a w hle hk hp
  rw [if_pos hw]
  intro K hK
  unfold Oper.wp
  rw [hrun]
  refine hc.mono fun e w' ⟨v, he, hl, hs⟩ => ?_
  subst he
  exact hK v w' hl hs
theorem wanted_of {o oj : Oper} {a : Act} {j : Nat} {b : Bool} (hg : o.guard = some (j, b)) (hj : ops[j]? = some oj) (hv : valOf oj a = .bool b) : Region.wanted o (yielded ops a.tmps) = true := by
  unfold Region.wanted
  rw [hg]
  simp only
  unfold valOf at hv
  unfold yielded
  rw [hj]
  cases hd : oj.dst with
  | none => rw [hd] at hv; cases hv
  | some d =>
    rw [hd] at hv
    simp only [Array.getD_eq_getD_getElem?] at hv
    simp only [Option.bind_some, hd]
    cases hx : a.tmps[d]? with
    | none => rw [hx] at hv; cases hv
    | some x =>
      rw [hx] at hv
      simp only [Option.getD_some] at hv
      subst hv
      simp
theorem ev {a : Act} {s : Nat} {v : Value} (h : a.eval (.tmp s) = v) : a.tmps[s]?.getD undef = v := by rw [← h]; exact (Array.getD_eq_getD_getElem? ..).symm
theorem kept_eval {a a0 : Act} {s : Nat} (h : Kept ops a0 a) (hs : idle ops s = true) : a.eval (.tmp s) = a0.tmps.getD s undef := h.2.2 s hs

/-- all operations, one by one -/
def AllSteps (P : Program) (md : Region.Mode) (ops : Array Oper) (Q : Exit → Act → World → Prop) (Le : World → World → Prop) (Sp : Nat → Value → World → Prop) (a0 : Act) (w0 : World) : Nat → List Oper → Prop
  | _, [] => True
  | k, o :: r => StepOk P md ops Q Le Sp a0 w0 k o ∧ AllSteps P md ops Q Le Sp a0 w0 (k + 1) r
theorem allSteps_at : ∀ (l : List Oper) (k : Nat), AllSteps P md ops Q Le Sp a0 w0 k l → ∀ i o, l[i]? = some o → StepOk P md ops Q Le Sp a0 w0 (k + i) o
  | [], _, _, i, o, h => by simp at h
  | x :: r, k, hh, 0, o, h => by obtain rfl : x = o := by simpa using h
                                 exact hh.1
  | x :: r, k, hh, i + 1, o, h => by
    have := allSteps_at r (k + 1) hh.2 i o (by simpa using h)
    rwa [Nat.add_assoc, Nat.add_comm 1 i] at this
theorem wp_region_spec_lit {id : Nat} {l : List Oper} (hmx : P.follows .mixedOrders = true) (h : specOk l.toArray a0.tmps.size = true) (htr : ∀ x y z, Le x y → Le y z → Le x z) (hm : ∀ j v x y, Le x y → Sp j v x → Sp j v y) (hrf : ∀ x, Le x x)
    (hst : AllSteps P .any l.toArray Q Le Sp a0 w0.drew 0 l) (hQ : ∀ a w, Le w0.drew w → Kept l.toArray a0 a → (∀ j oj, l.toArray[j]? = some oj → Sp j (valOf oj a) w) → Q .normal a w) :
    (Code.region id l.toArray true).wp P Q a0 w0 :=
  wp_region_spec hmx h htr hm hrf (fun i o hi => by have := allSteps_at l 0 hst i o (by simpa using hi); rwa [Nat.zero_add] at this) hQ
end
end Go.Own

/-! A region that draws its order, with slots that are read before they are written (Step's law, extended). No program stands here. -/
namespace Go.Own
open Go.RowKit
set_option linter.unusedVariables false

/-- the slots whose writers all wait for operation i are as at the beginning -/
def Late (md : Region.Mode) (ops : Array Oper) (a0 a : Act) (i : Nat) : Prop := ∀ s : Nat, (∀ (j : Nat) (oj : Oper), ops[j]? = some oj → oj.dst = some s → needs md oj i = true) → a.tmps.getD s undef = a0.tmps.getD s undef
def StepOkL (P : Program) (md : Region.Mode) (ops : Array Oper) (Q : Exit → Act → World → Prop) (Le : World → World → Prop) (Sp : Nat → Value → World → Prop) (a0 : Act) (w0 : World) (i : Nat) (o : Oper) : Prop :=
  ∀ a w, Le w0 w → Kept ops a0 a → Late md ops a0 a i → (∀ j oj, ops[j]? = some oj → needs md o j = true → Sp j (valOf oj a) w) →
    if Region.wanted o (yielded ops a.tmps) = true then ∀ K : Act → World → Prop, (∀ v w', Le w w' → Sp i v w' → K (a.put o.dst v) w') → o.wp P a w K Q else Sp i undef w

section
variable {P : Program} {md : Region.Mode} {ops : Array Oper} {Q : Exit → Act → World → Prop} {Le : World → World → Prop} {Sp : Nat → Value → World → Prop} {a0 : Act} {w0 : World} {n : Nat}

/-- each operation has a place of its own for its value, and waits only for earlier ones -/
def specOkL (md : Region.Mode) (ops : Array Oper) (n : Nat) : Bool :=
  (List.range ops.size).all fun i => match ops[i]? with
    | some o => (match o.dst with
      | some d => decide (d < n) && (List.range ops.size).all (fun j => j == i || ((ops[j]?).bind (·.dst)) != some d)
      | none => false) && o.after.all (fun e => !Region.binds md e || decide (e.on < i))
    | none => false
theorem specOkL_at (h : specOkL md ops n = true) {i : Nat} {o : Oper} (hi : ops[i]? = some o) :
    ∃ d, o.dst = some d ∧ d < n ∧ (∀ (j : Nat) (oj : Oper), ops[j]? = some oj → j ≠ i → oj.dst ≠ some d) ∧ ∀ e ∈ o.after, Region.binds md e = true → e.on < i := by
  have hlt : i < ops.size := (Array.getElem?_eq_some_iff.1 hi).1
  have h1 := List.all_eq_true.1 h i (List.mem_range.2 hlt)
  rw [hi] at h1
  simp only [Bool.and_eq_true] at h1
  obtain ⟨h1, h2⟩ := h1
  cases hd : o.dst with
  | none => rw [hd] at h1; cases h1
  | some d =>
    rw [hd] at h1
    simp only [Bool.and_eq_true, decide_eq_true_eq] at h1
    refine ⟨d, rfl, h1.1, ?_, ?_⟩
    · intro j oj hj hne e
      have h3 := List.all_eq_true.1 h1.2 j (List.mem_range.2 (Array.getElem?_eq_some_iff.1 hj).1)
      rw [hj] at h3
      simp [hne, e] at h3
    · intro e he hb
      have := Array.all_eq_true_iff_forall_mem.1 h2 e he
      simpa [hb] using this

theorem all_listedL (h : specOkL md ops n = true) {listed : Array Bool} (hs : listed.size = ops.size) (hr : Region.ready md ops listed = []) : ∀ i, i < ops.size → listed.getD i false = true := by
  intro i
  induction i using Nat.strongRecOn with
  | ind i ih =>
    intro hi
    cases hl : listed.getD i false with
    | true => rfl
    | false =>
      exfalso
      obtain ⟨d, -, -, -, haft⟩ := specOkL_at h (Array.getElem?_eq_getElem hi)
      have hm : i ∈ Region.ready md ops listed := by
        unfold Region.ready
        refine List.mem_filter.2 ⟨List.mem_range.2 hi, ?_⟩
        have hl2 : listed.getD i true = false := by
          have hi2 : i < listed.size := by omega
          simp only [Array.getD, hi2, dif_pos] at hl ⊢
          exact hl
        rw [hl2, Array.getElem?_eq_getElem hi]
        simp only [Bool.not_false, Bool.true_and, Option.map_some, Option.getD_some]
        refine Array.all_eq_true_iff_forall_mem.2 fun e he => ?_
        by_cases hb : Region.binds md e = true
        · have := haft e he hb
          rw [ih e.on this (by omega)]
          simp
        · simp [hb]
      rw [hr] at hm
      cases hm

theorem specAt_putL (h : specOkL md ops n = true) (hn : a0.tmps.size = n) (htr : ∀ x y z, Le x y → Le y z → Le x z) (hm : ∀ j v x y, Le x y → Sp j v x → Sp j v y) {listed : Array Bool} {a : Act} {w w' : World} {i : Nat} {o : Oper} {v : Value} (hi : ops[i]? = some o) (hI : SpecAt Le ops Sp a0 w0 listed a w) (hw : Le w w') (hv : Sp i v w') :
    SpecAt Le ops Sp a0 w0 (listed.setIfInBounds i true) (a.put o.dst v) w' := by
  obtain ⟨d, hd, hdn, hne, -⟩ := specOkL_at h hi
  obtain ⟨h1, h2, ⟨k1, k2, k3⟩, h4⟩ := hI
  have hput : a.put o.dst v = { a with tmps := a.tmps.setIfInBounds d v } := by rw [hd]; rfl
  have hdl : d < a.tmps.size := by rw [k2, hn]; exact hdn
  rw [hput]
  refine ⟨by simpa using h1, htr _ _ _ h2 hw, ⟨k1, by simpa using k2, ?_⟩, ?_⟩
  · intro s hs
    rw [← k3 s hs]
    have hsd : d ≠ s := by
      intro e
      have := List.all_eq_true.1 hs o (Array.mem_of_getElem? hi).val
      rw [hd, e] at this
      simp at this
    simp only [Array.getD_eq_getD_getElem?, Array.getElem?_setIfInBounds_ne hsd]
  · intro j oj hj hl
    by_cases hji : j = i
    · subst hji
      obtain rfl : o = oj := by rw [hi] at hj; exact Option.some.inj hj
      have : valOf o { a with tmps := a.tmps.setIfInBounds d v } = v := by
        unfold valOf
        rw [hd]
        simp [Array.getD_eq_getD_getElem?, hdl]
      rw [this]; exact hv
    · have hl2 : listed.getD j false = true := by
        rw [Array.getD_eq_getD_getElem?, Array.getElem?_setIfInBounds_ne (Ne.symm hji)] at hl
        rw [Array.getD_eq_getD_getElem?]; exact hl
      have : valOf oj { a with tmps := a.tmps.setIfInBounds d v } = valOf oj a := by
        unfold valOf
        cases hdj : oj.dst with
        | none => rfl
        | some dj =>
          have hdd : d ≠ dj := fun e => hne j oj hj hji (by rw [hdj, e])
          simp only [Array.getD_eq_getD_getElem?, Array.getElem?_setIfInBounds_ne hdd]
      rw [this]
      exact hm _ _ _ _ hw (h4 j oj hj hl2)

def SpecAtL (md : Region.Mode) (Le : World → World → Prop) (ops : Array Oper) (Sp : Nat → Value → World → Prop) (a0 : Act) (w0 : World) (listed : Array Bool) (a : Act) (w : World) : Prop :=
  SpecAt Le ops Sp a0 w0 listed a w ∧ (∀ s : Nat, (∀ (j : Nat) (oj : Oper), ops[j]? = some oj → oj.dst = some s → listed.getD j false = false) → a.tmps.getD s undef = a0.tmps.getD s undef) ∧
  (∀ (j : Nat) (oj : Oper), ops[j]? = some oj → listed.getD j false = true → ∀ k, needs md oj k = true → listed.getD k false = true)
theorem SpecAtL.late {listed : Array Bool} {a : Act} {w : World} {i : Nat} (h : SpecAtL md Le ops Sp a0 w0 listed a w) (hl : listed.getD i false = false) : Late md ops a0 a i := by
  intro s hs
  refine h.2.1 s fun j oj hj hd => ?_
  cases e : listed.getD j false with
  | false => rfl
  | true => rw [h.2.2 j oj hj e i (hs j oj hj hd)] at hl; cases hl
theorem specAtL_put (h : specOkL md ops n = true) (hn : a0.tmps.size = n) (htr : ∀ x y z, Le x y → Le y z → Le x z) (hm : ∀ j v x y, Le x y → Sp j v x → Sp j v y) {listed : Array Bool} {a : Act} {w w' : World} {i : Nat} {o : Oper} {v : Value} (hi : ops[i]? = some o) (hI : SpecAtL md Le ops Sp a0 w0 listed a w) (hw : Le w w') (hv : Sp i v w')
    (hlt : i < listed.size) (hne : ∀ k, needs md o k = true → listed.getD k false = true) : SpecAtL md Le ops Sp a0 w0 (listed.setIfInBounds i true) (a.put o.dst v) w' := by
  have hgi : (listed.setIfInBounds i true).getD i false = true := by simp [Array.getD_eq_getD_getElem?, hlt]
  have hgj : ∀ j, j ≠ i → (listed.setIfInBounds i true).getD j false = listed.getD j false := fun j hj => by
    rw [Array.getD_eq_getD_getElem?, Array.getElem?_setIfInBounds_ne (Ne.symm hj), Array.getD_eq_getD_getElem?]
  obtain ⟨d, hd, hdn, -, -⟩ := specOkL_at h hi
  refine ⟨specAt_putL h hn htr hm hi hI.1 hw hv, ?_, ?_⟩
  · intro s hs
    have hsd : d ≠ s := by
      rintro rfl
      have := hs i o hi hd
      rw [hgi] at this; cases this
    rw [← hI.2.1 s fun j oj hj hdj => ?_]
    · rw [hd]
      show (a.tmps.setIfInBounds d v).getD s undef = _
      simp only [Array.getD_eq_getD_getElem?, Array.getElem?_setIfInBounds_ne hsd]
    · have h2 := hs j oj hj hdj
      by_cases hji : j = i
      · subst hji; rw [hgi] at h2; cases h2
      · rwa [hgj j hji] at h2
  · intro j oj hj hl k hk
    have hk2 : listed.getD k false = true := by
      by_cases hji : j = i
      · subst hji
        obtain rfl : o = oj := by rw [hi] at hj; exact Option.some.inj hj
        exact hne k hk
      · rw [hgj j hji] at hl
        exact hI.2.2 j oj hj hl k hk
    by_cases hki : k = i
    · subst hki; exact hgi
    · rw [hgj k hki]; exact hk2

theorem wpAny_specL (h : specOkL md ops n = true) (hn : a0.tmps.size = n) (htr : ∀ x y z, Le x y → Le y z → Le x z) (hm : ∀ j v x y, Le x y → Sp j v x → Sp j v y) (hrf : ∀ x, Le x x)
    (hst : ∀ i o, ops[i]? = some o → StepOkL P md ops Q Le Sp a0 w0 i o) (hQ : ∀ a w, Le w0 w → Kept ops a0 a → (∀ j oj, ops[j]? = some oj → Sp j (valOf oj a) w) → Q .normal a w) :
    ∀ (fuel : Nat) (listed : Array Bool) (a : Act) (w : World), listed.toList.countP (· == false) ≤ fuel → SpecAtL md Le ops Sp a0 w0 listed a w → wpAny P md ops Q fuel listed a w := by
  have fin : ∀ (listed : Array Bool) (a : Act) (w : World), Region.ready md ops listed = [] → SpecAtL md Le ops Sp a0 w0 listed a w → Q .normal a w := by
    intro listed a w hr hI
    exact hQ a w hI.1.2.1 hI.1.2.2.1 fun j oj hj => hI.1.2.2.2 j oj hj (all_listedL h hI.1.1 hr j (Array.getElem?_eq_some_iff.1 hj).1)
  have rdy : ∀ (listed : Array Bool) (i : Nat), i ∈ Region.ready md ops listed → ∃ o, ops[i]? = some o ∧ listed.getD i true = false ∧ ∀ e ∈ o.after, Region.binds md e = true → listed.getD e.on false = true := by
    intro listed i hi
    unfold Region.ready at hi
    obtain ⟨h1, h2⟩ := List.mem_filter.1 hi
    have hlt := List.mem_range.1 h1
    rw [Array.getElem?_eq_getElem hlt] at h2 ⊢
    simp only [Option.map_some, Option.getD_some, Bool.and_eq_true, Bool.not_eq_true'] at h2
    refine ⟨_, rfl, h2.1, fun e he hb => ?_⟩
    have := Array.all_eq_true_iff_forall_mem.1 h2.2 e he
    simpa [hb] using this
  intro fuel
  induction fuel with
  | zero =>
    intro listed a w hc hI
    have hr : Region.ready md ops listed = [] := by
      cases hr : Region.ready md ops listed with
      | nil => rfl
      | cons i r =>
        obtain ⟨o, ho, hl, -⟩ := rdy listed i (by rw [hr]; exact List.mem_cons_self ..)
        have hlt : i < listed.size := by
          by_cases hlt : i < listed.size
          · exact hlt
          · simp [Array.getD, hlt] at hl
        have hz : listed.toList.countP (· == false) = 0 := by omega
        rw [List.countP_eq_zero] at hz
        have := hz listed[i] (by simp)
        simp [Array.getD, hlt] at hl
        rw [hl] at this
        simp at this
    exact ⟨hr, fin _ _ _ hr hI⟩
  | succ fuel ih =>
    intro listed a w hc hI
    refine ⟨fun hr => fin _ _ _ hr hI, fun i hi => ?_⟩
    obtain ⟨o, ho, hl, haft⟩ := rdy listed i hi
    have hlt : i < listed.size := by
      by_cases hlt : i < listed.size
      · exact hlt
      · simp [Array.getD, hlt] at hl
    have hli : listed[i] = false := by simpa [Array.getD, hlt] using hl
    have hc2 : (listed.setIfInBounds i true).toList.countP (· == false) ≤ fuel := by
      rw [Array.toList_setIfInBounds, List.countP_set (by simpa using hlt)]
      have : listed.toList[i]'(by simpa using hlt) = false := by simpa using hli
      rw [this, if_pos (show (false == false) = true from rfl), if_neg (show ¬ (true == false) = true by decide)]
      omega
    have hnn : ∀ k, needs md o k = true → listed.getD k false = true := fun k hnd => by
      unfold needs at hnd
      obtain ⟨e, he, hb⟩ := List.any_eq_true.1 hnd
      simp only [Bool.and_eq_true, beq_iff_eq] at hb
      rw [← hb.2]; exact haft e (Array.mem_toList_iff.1 he) hb.1
    have hs := hst i o ho a w hI.1.2.1 hI.1.2.2.1 (hI.late (by simp [Array.getD, hlt, hli])) (fun j oj hj hnd => by
      unfold needs at hnd
      obtain ⟨e, he, hb⟩ := List.any_eq_true.1 hnd
      simp only [Bool.and_eq_true, beq_iff_eq] at hb
      exact hI.1.2.2.2 j oj hj (by rw [← hb.2]; exact haft e (Array.mem_toList_iff.1 he) hb.1))
    unfold wpOp
    rw [ho]
    simp only
    by_cases hw : Region.wanted o (yielded ops a.tmps) = true
    · rw [if_pos hw] at hs ⊢
      exact Or.inl (hs _ fun v w' hle hv => ih _ _ _ hc2 (specAtL_put h hn htr hm ho hI hle hv hlt hnn))
    · rw [if_neg hw] at hs ⊢
      exact ih _ _ _ hc2 (specAtL_put h hn htr hm ho hI (hrf w) hs hlt hnn)

/-- the law: a region that draws its order -/
theorem wp_region_specL {id : Nat} (hmx : P.follows .mixedOrders = true) (h : specOkL .any ops a0.tmps.size = true) (htr : ∀ x y z, Le x y → Le y z → Le x z) (hm : ∀ j v x y, Le x y → Sp j v x → Sp j v y) (hrf : ∀ x, Le x x)
    (hst : ∀ i o, ops[i]? = some o → StepOkL P .any ops Q Le Sp a0 w0.drew i o) (hQ : ∀ a w, Le w0.drew w → Kept ops a0 a → (∀ j oj, ops[j]? = some oj → Sp j (valOf oj a) w) → Q .normal a w) :
    (Code.region id ops true).wp P Q a0 w0 := by
  refine wp_region_any hmx (wpAny_specL h rfl htr hm hrf hst hQ _ _ _ _ ?_ ⟨⟨by simp, hrf _, ⟨rfl, rfl, fun _ _ => rfl⟩, ?_⟩, fun _ _ => rfl, fun j oj hj hl => ?_⟩)
  · simpa using List.countP_le_length (p := (· == false)) (l := List.replicate ops.size false)
  · intro j oj hj hl
    simp [Array.getD] at hl
  · simp [Array.getD] at hl

theorem stepOkL_val {i : Nat} {o : Oper} (h : ∀ a w, Le w0 w → Kept ops a0 a → Late md ops a0 a i → (∀ j oj, ops[j]? = some oj → needs md o j = true → Sp j (valOf oj a) w) → Region.wanted o (yielded ops a.tmps) = true ∧ ∃ v w', (execOp a.eval o).run P w = .ok (.value v) w' ∧ Le w w' ∧ Sp i v w') : StepOkL P md ops Q Le Sp a0 w0 i o := by
  intro a w hle hk hq hp
  obtain ⟨hw, v, w', hrun, hl, hs⟩ := h a w hle hk hq hp
  rw [if_pos hw]
  intro K hK
  unfold Oper.wp
  rw [hrun]
  exact hK v w' hl hs
theorem stepOkL_call {i : Nat} {o : Oper} (h : ∀ a w, Le w0 w → Kept ops a0 a → Late md ops a0 a i → (∀ j oj, ops[j]? = some oj → needs md o j = true → Sp j (valOf oj a) w) → Region.wanted o (yielded ops a.tmps) = true ∧ ∃ f args, (execOp a.eval o).run P w = .ok (.enter f args) w ∧ Calls P f args w fun e w' => ∃ v, e = .returned v ∧ Le w w' ∧ Sp i v w') : StepOkL P md ops Q Le Sp a0 w0 i o := by
  intro a w hle hk hq hp
  obtain ⟨hw, f, args, hrun, hc⟩ := h a w hle hk hq hp
  rw [if_pos hw]
  intro K hK
  unfold Oper.wp
  rw [hrun]
  refine hc.mono fun e w' ⟨v, he, hl, hs⟩ => ?_
  subst he
  exact hK v w' hl hs
/-- all operations, one by one -/
def AllStepsL (P : Program) (md : Region.Mode) (ops : Array Oper) (Q : Exit → Act → World → Prop) (Le : World → World → Prop) (Sp : Nat → Value → World → Prop) (a0 : Act) (w0 : World) : Nat → List Oper → Prop
  | _, [] => True
  | k, o :: r => StepOkL P md ops Q Le Sp a0 w0 k o ∧ AllStepsL P md ops Q Le Sp a0 w0 (k + 1) r
theorem allStepsL_at : ∀ (l : List Oper) (k : Nat), AllStepsL P md ops Q Le Sp a0 w0 k l → ∀ i o, l[i]? = some o → StepOkL P md ops Q Le Sp a0 w0 (k + i) o
  | [], _, _, i, o, h => by simp at h
  | x :: r, k, hh, 0, o, h => by obtain rfl : x = o := by simpa using h
                                 exact hh.1
  | x :: r, k, hh, i + 1, o, h => by
    have := allStepsL_at r (k + 1) hh.2 i o (by simpa using h)
    rwa [Nat.add_assoc, Nat.add_comm 1 i] at this
theorem wp_region_specL_lit {id : Nat} {l : List Oper} (hmx : P.follows .mixedOrders = true) (h : specOkL .any l.toArray a0.tmps.size = true) (htr : ∀ x y z, Le x y → Le y z → Le x z) (hm : ∀ j v x y, Le x y → Sp j v x → Sp j v y) (hrf : ∀ x, Le x x)
    (hst : AllStepsL P .any l.toArray Q Le Sp a0 w0.drew 0 l) (hQ : ∀ a w, Le w0.drew w → Kept l.toArray a0 a → (∀ j oj, l.toArray[j]? = some oj → Sp j (valOf oj a) w) → Q .normal a w) :
    (Code.region id l.toArray true).wp P Q a0 w0 :=
  wp_region_specL hmx h htr hm hrf (fun i o hi => by have := allStepsL_at l 0 hst i o (by simpa using hi); rwa [Nat.zero_add] at this) hQ
theorem late_eval {a a0 : Act} {s i : Nat} (h : Late md ops a0 a i) (hs : (ops.toList.all fun oj => oj.dst != some s || needs md oj i) = true) : a.eval (.tmp s) = a0.tmps.getD s undef := by
  refine h s fun j oj hj hd => ?_
  have := List.all_eq_true.1 hs oj (Array.mem_of_getElem? hj).val
  rw [hd] at this
  simpa using this
end
end Go.Own
