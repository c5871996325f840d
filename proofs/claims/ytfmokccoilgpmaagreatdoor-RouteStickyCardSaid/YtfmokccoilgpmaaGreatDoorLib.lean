/- Small notions that all walks of this claim share: how a slice reads, and that a reading stays while the world only grows. -/
import Derived.WalkKit
import Derived.WalkSpells
import Derived.WalkLawsBesides
import Derived.Lib.Hide
import Derived.ProofKit
import Derived.OpenShut
import Derived.ShutString
import Derived.ChangeOld
import Derived.SliceStrings
namespace Go.Own
set_option linter.unusedVariables false
open Go.RowKit

/-- The address a leads to the cells xs. -/
def RdC (w : World) (a : Option Addr) (xs : List Value) : Prop :=
  ∀ k (h : k < xs.length), ∃ b off, a = some ⟨b, off, none⟩ ∧ w.cell? ⟨b, off + k, none⟩ = some xs[k]

/-- v is a slice of n elements that reads as the cells xs. -/
def Rd (w : World) (v : Value) (n : Nat) (xs : List Value) : Prop :=
  ∃ a cap, v = .slice a n cap ∧ n ≤ cap ∧ cap ≤ maxLen ∧ (a = none → cap = 0) ∧ RdC w a xs

theorem RdC.below {w w' : World} {a : Option Addr} {xs : List Value} (h : RdC w a xs) (hb : Below w.heap.size w w') : RdC w' a xs := by
  intro k hk
  obtain ⟨b, off, ha, hc⟩ := h k hk
  refine ⟨b, off, ha, ?_⟩
  rw [hb.cell (p := ⟨b, off + k, none⟩) (World.block_lt_of_cell? w _ hc)]
  exact hc

theorem Rd.below {w w' : World} {v : Value} {n : Nat} {xs : List Value} (h : Rd w v n xs) (hb : Below w.heap.size w w') : Rd w' v n xs := by
  obtain ⟨a, cap, hv, h1, h2, h3, hc⟩ := h
  exact ⟨a, cap, hv, h1, h2, h3, hc.below hb⟩

theorem Below.self_trans {a b c : World} (h : Below a.heap.size a b) (k : Below b.heap.size b c) : Below a.heap.size a c :=
  h.trans (k.mono h.size)

/-- bytes as cells -/
def byteV (c : UInt8) : Value := .int .u8 (c.toNat : Int)
def bytesV (l : List UInt8) : List Value := l.map byteV
theorem bytesV_length (l : List UInt8) : (bytesV l).length = l.length := List.length_map ..

/-- a []byte reads as l -/
def RdB (w : World) (v : Value) (l : List UInt8) : Prop := Rd w v l.length (bytesV l)

theorem RdB.below {w w' : World} {v : Value} {l : List UInt8} (h : RdB w v l) (hb : Below w.heap.size w w') : RdB w' v l := Rd.below h hb

theorem RdB_nil (w : World) : RdB w (.slice none 0 0) [] :=
  ⟨none, 0, rfl, Nat.le_refl _, by simp [maxLen], fun _ => rfl, fun k hk => absurd hk (Nat.not_lt_zero _)⟩

theorem RdB_of {w : World} {a : Option Addr} {n cap : Nat} {l : List UInt8} (hn : n = l.length) (h1 : n ≤ cap) (h2 : cap ≤ maxLen) (h3 : a = none → cap = 0) (hc : RdC w a (bytesV l)) : RdB w (.slice a n cap) l := by
  subst hn
  exact ⟨a, cap, rfl, h1, h2, h3, hc⟩
theorem size_toList (s : ByteArray) : s.size = s.data.toList.length := by rw [Array.length_toList]; rfl

theorem RdC.byte {w : World} {a : Option Addr} {l : List UInt8} (h : RdC w a (bytesV l)) (k : Nat) (hk : k < l.length) :
    ∃ b off, a = some ⟨b, off, none⟩ ∧ w.cell? ⟨b, off + k, none⟩ = some (.int .u8 (l[k].toNat : Int)) := by
  obtain ⟨b, off, ha, hc⟩ := h k (by rw [bytesV_length]; exact hk)
  refine ⟨b, off, ha, ?_⟩
  rw [hc]
  simp [bytesV, byteV]

/-- strings as cells -/
def strsV (l : List ByteArray) : List Value := l.map .string
theorem strsV_length (l : List ByteArray) : (strsV l).length = l.length := List.length_map ..
def RdS (w : World) (v : Value) (l : List ByteArray) : Prop := Rd w v l.length (strsV l)
theorem RdS.below {w w' : World} {v : Value} {l : List ByteArray} (h : RdS w v l) (hb : Below w.heap.size w w') : RdS w' v l := Rd.below h hb
theorem RdS_nil (w : World) : RdS w (.slice none 0 0) [] :=
  ⟨none, 0, rfl, Nat.le_refl _, by simp [maxLen], fun _ => rfl, fun k hk => absurd hk (Nat.not_lt_zero _)⟩
theorem RdC.str {w : World} {a : Option Addr} {l : List ByteArray} (h : RdC w a (strsV l)) (k : Nat) (hk : k < l.length) :
    ∃ b off, a = some ⟨b, off, none⟩ ∧ w.cell? ⟨b, off + k, none⟩ = some (.string l[k]) := by
  obtain ⟨b, off, ha, hc⟩ := h k (by rw [strsV_length]; exact hk)
  refine ⟨b, off, ha, ?_⟩
  rw [hc]
  simp [strsV]

/-- what is owned reads -/
theorem RdC_owned {w : World} {base : Nat} {e : TypeId} {size : Nat} {g n cap : Nat} {xs : List Value} (h : w.ownsRow base e size (.slice (some ⟨g, 0, none⟩) n cap) n xs) : RdC w (some ⟨g, 0, none⟩) xs := by
  intro k hk
  refine ⟨g, 0, rfl, ?_⟩
  have := h.cellAt k (by rw [← h.1]; exact hk)
  rw [Nat.zero_add, this, List.getElem?_eq_getElem hk]

theorem Rd_owned {w : World} {base : Nat} {e : TypeId} {size : Nat} {v : Value} {n : Nat} {xs : List Value} (h : w.ownsRow base e size v n xs) : Rd w v n xs := by
  rcases h.2 with ⟨rfl, rfl⟩ | ⟨g, cap, cur, rfl, hb, hg, hn, hm, hs, ht⟩
  · have : xs = [] := List.eq_nil_of_length_eq_zero (by simpa using h.1)
    subst this
    exact ⟨none, 0, rfl, Nat.le_refl _, by simp [maxLen], fun _ => rfl, fun k hk => absurd hk (Nat.not_lt_zero _)⟩
  · exact ⟨_, cap, rfl, hn, hm, by simp, RdC_owned h⟩

/-- the first k elements (of one cell each) -/
theorem RdC.take {w : World} {a : Option Addr} {xs : List Value} (h : RdC w a xs) (k : Nat) : RdC w a (xs.take k) := by
  intro j hj
  obtain ⟨b, off, ha, hc⟩ := h j (by rw [List.length_take] at hj; omega)
  exact ⟨b, off, ha, by rw [hc, List.getElem_take]⟩
theorem Rd_take {w : World} {a : Option Addr} {cap : Nat} {xs : List Value} (h : RdC w a xs) (k : Nat) (h2 : cap ≤ maxLen) (h3 : a = none → cap = 0) (h4 : k ≤ cap) : Rd w (.slice a k cap) k (xs.take k) :=
  ⟨a, cap, rfl, h4, h2, h3, h.take k⟩

/-- a contract that leaves the world alone, its world forgotten -/
theorem same_below {P : Program} {f : FuncId} {args : Array Value} {w : World} {R : Ending → Prop} (h : Calls P f args w fun e w' => R e ∧ w = w') :
    Calls P f args w fun e w' => R e ∧ Below w.heap.size w w' :=
  h.mono fun e w' ⟨he, hw⟩ => ⟨he, hw ▸ Below.refl _ _⟩

/-- a literal block just laid -/
theorem RdC_new (w : World) (cs : List Value) (e : TypeId) (fz : Nat × Nat) : RdC (w.alloc (.cells cs.toArray e fz)) (some ⟨w.heap.size, 0, none⟩) cs := by
  intro k hk
  refine ⟨w.heap.size, 0, rfl, ?_⟩
  have := cell_of_row (w.alloc (.cells cs.toArray e fz)) w.heap.size (0 + k) cs.toArray e fz (heap_alloc_new w _)
  rw [this]
  simp [hk]

/-- an operation that is carried out -/
theorem wpList_w {P : Program} {w : World} {ops : Array Oper} {rest : List Oper} {o : Oper} {a : Act} {Q : Exit → Act → World → Prop} (hw : Region.wanted o (yielded ops a.tmps) = true)
    (h : ∀ K : Act → World → Prop, (∀ a w, wpList P ops Q rest a w → K a w) → o.wp P a w K Q) : wpList P ops Q (o :: rest) a w :=
  wpList_step fun K hK => by rw [if_pos hw]; exact h K hK

/-- '[]byte(s)', the world behind it under a name of its own. -/
theorem wpList_strbytes {P : Program} {w : World} {ops : Array Oper} {rest : List Oper} {o : Oper} {a : Act} {Q : Exit → Act → World → Prop}
    (hg : Region.wanted o (yielded ops a.tmps) = true) (src dst : TypeId) (x : Operand) (hop : o.op = Op.convert src dst x) (s : ByteArray) (hx : a.eval x = .string s)
    (e : TypeId) (hs : P.underlying src = some .string) (hd : P.underlying dst = some (.slice e)) (he : P.underlying e = some (.int .u8))
    (hK : ∀ ad cap w', Below w.heap.size w w' → s.size ≤ cap → cap ≤ maxLen → RdC w' (some ad) (bytesV s.data.toList) → wpList P ops Q rest (a.put o.dst (.slice (some ad) s.size cap)) w')
    (hsz : s.size ≤ maxLen) : wpList P ops Q (o :: rest) a w := by
  refine wpList_w hg fun K hK' => ?_
  have hrun := run_bytes_of_string (P := P) w src dst e s hs hd he
  unfold Oper.wp
  simp [execOp, hop, hx, hrun, Result.andThen]
  refine hK' _ _ (hK _ _ _ ((Below.refl _ _).drew.alloc (Nat.le_refl _) _) (grownCap_ge _ _ _ _) (grownCap_le_maxLen _ _ _ _ hsz) ?_)
  intro k hk
  rw [bytesV_length, Array.length_toList] at hk
  refine ⟨w.heap.size, 0, rfl, ?_⟩
  have h1 := World.cell?_alloc_mark w.drew (bytesRow s (grownCap w s.size 0 e)) e ((bytesRow s (grownCap w s.size 0 e)).size, (bytesRow s (grownCap w s.size 0 e)).size + 1) (0 + k)
  rw [Nat.zero_add] at h1
  rw [Nat.zero_add]
  refine h1.trans ?_
  rw [bytesRow_at s _ k hk]
  simp [bytesV, byteV]

/-- what is owned has its shape written out -/
theorem owned_slice {w : World} {base : Nat} {e : TypeId} {size : Nat} {v : Value} {n : Nat} {xs : List Value} (h : w.ownsRow base e size v n xs) :
    ∃ a cap, v = .slice a n cap ∧ n ≤ cap ∧ cap ≤ maxLen ∧ (a = none → cap = 0) := by
  rcases h.2 with ⟨rfl, rfl⟩ | ⟨g, cap, cur, rfl, hb, hg, hn, hm, hs, ht⟩
  · exact ⟨none, 0, rfl, Nat.le_refl _, by simp [maxLen], fun _ => rfl⟩
  · exact ⟨_, cap, rfl, hn, hm, by simp⟩

/-- where the value of an append lies: in the old row, or in a new one -/
theorem append_where {P : Program} (w : World) (base : Nat) (t ty e : TypeId) (i : TypeInfo) (z : Value) (size bytes : Nat) (ht : P.underlying t = some (.slice e)) (hi : P.info? e = some i) (hz : i.zero = some z)
    (hsize : i.size = size) (hby : i.bytes = bytes) (v : Value) (n : Nat) (xs : List Value) (hown : w.ownsRow base e size v n xs)
    (a : Addr) (m c : Nat) (news : List Value) (hl : news.length = m * size) (hnews : ∀ j u, news[j]? = some u → w.cell? (a.add j) = some u) (h1 : ∀ u ∈ news, u.oneCell' = true)
    (h63 : n + m ≤ maxLen) (hbytes : (n + m) * bytes ≤ 140737488355328)
    {v' : Value} {w' : World} (hr : (Builtin.append_ #[t, t] ty #[v, .slice (some a) m c]).run P w = .ok v' w') : v'.ownBlock = v.ownBlock ∨ v'.ownBlock = some w.heap.size := by
  subst hsize
  subst hby
  have hsmall : n + m ≤ 9223372036854775807 := by simp only [maxLen] at h63; omega
  rcases hown.2 with ⟨rfl, rfl⟩ | ⟨g, cap, cur, rfl, hbg, hg, hnc, hcm, hcs, htake⟩
  · by_cases hm : m = 0
    · subst hm
      have hn : news = [] := List.eq_nil_of_length_eq_zero (by simpa using hl)
      subst hn
      have h2 : (Builtin.append_ #[t, t] ty #[.slice none 0 0, .slice (some a) 0 c]).run P w = .ok (.slice none 0 0) w := by
        simp [Builtin.append_, run_underlying ht, sizeOf, typeInfo, hi, Builtin.lenOf, Builtin.firstCells, loadCells, loadCellsFrom]
      rw [h2] at hr
      injection hr with e1 _
      left; rw [← e1]
    · have h2 := run_append_nil (P := P) w t ty e i z ht hi hz a m c news hl hnews (by omega) (by omega) (by have hb := hbytes; simp only [Nat.zero_add] at hb; omega)
      rw [h2] at hr
      injection hr with e1 _
      right; rw [← e1]; rfl
  · by_cases hroom : n + m ≤ cap
    · have hfit : n * i.size + news.length ≤ cur.size := by rw [hl, hcs, ← Nat.add_mul]; exact Nat.mul_le_mul_right _ hroom
      have h2 := run_append_room (P := P) w t ty e i ht hi g n cap cur hg a m c news hl hnews h1 hroom hfit
      rw [h2] at hr
      injection hr with e1 _
      left; rw [← e1]; rfl
    · have holds : ∀ j u, xs[j]? = some u → w.cell? ((⟨g, 0, none⟩ : Addr).add j) = some u := hown.cells (g := g) rfl
      have h2 := run_append_grow (P := P) w t ty e i z ht hi hz ⟨g, 0, none⟩ n cap xs hown.1 holds a m c news hl hnews (by omega) (by omega) (growslice_fits (by omega) hbytes)
      rw [h2] at hr
      injection hr with e1 _
      right; rw [← e1]; rfl

/-- the block of a slice's address -/
def blk (a : Option Addr) : Option Nat := a.map (·.block)
theorem ownBlock_slice (a : Option Addr) (n c : Nat) : (Value.slice a n c).ownBlock = blk a := by cases a <;> rfl

/-- a reading elsewhere stays while one row is written -/
theorem RdC.grown {w w' : World} {row : Option Nat} {a : Option Addr} {xs : List Value} (h : RdC w a xs) (hg : w.grownBy w' row) (hne : blk a = none ∨ blk a ≠ row) : RdC w' a xs := by
  intro k hk
  obtain ⟨b, off, rfl, hc⟩ := h k hk
  exact ⟨b, off, rfl, hg.cell hc (by rcases hne with hne | hne; (simp [blk] at hne); exact hne)⟩

/-- 'append(s, x...)': s is owned, x reads as the cells news (x may be nil). -/
theorem wpList_append_rd {P : Program} {w : World} {ops : Array Oper} {rest : List Oper} {o : Oper} {a : Act} {Q : Exit → Act → World → Prop} (hgd : Region.wanted o (yielded ops a.tmps) = true) (s x : Operand) (t : TypeId)
    (ho : o.op = .call { callee := .builtin .append, args := #[s, x], argTypes := #[t, t] })
    (w0 : World) (hb : Below w0.heap.size w0 w)
    (e : TypeId) (z : Value) (size bytes : Nat) (ht : P.underlying t = some (.slice e)) (hinfo : (P.info? e).map (fun i => (i.zero, i.size, i.bytes)) = some (some z, size, bytes)) (hzs : z.cells.size = size) (hsz : 0 < size)
    (a0 : Option Addr) (n c0 : Nat) (xs : List Value) (hs : a.eval s = .slice a0 n c0) (hown : w.ownsRow w0.heap.size e size (.slice a0 n c0) n xs)
    (ao : Option Addr) (m c : Nat) (news : List Value) (hx : a.eval x = .slice ao m c) (hl : news.length = m * size) (hnone : ao = none → c = 0) (hmc : m ≤ c) (hr : RdC w ao news) (h1 : ∀ u ∈ news, u.oneCell' = true)
    (hbytes : (n + m) * bytes ≤ 140737488355328) (h63 : n + m ≤ maxLen)
    (hK : ∀ a' cap' w', Below w0.heap.size w0 w' → w'.ownsRow w0.heap.size e size (.slice a' (n + m) cap') (n + m) (xs ++ news) → w.grownBy w' (blk a0) → (blk a' = blk a0 ∨ blk a' = some w.heap.size) →
      wpList P ops Q rest (a.put o.dst (.slice a' (n + m) cap')) w') : wpList P ops Q (o :: rest) a w := by
  obtain ⟨i, hi, hz, hsize, hby⟩ := info_parts hinfo
  have fin : ∀ v' w', w'.ownsRow w0.heap.size e size v' (n + m) (xs ++ news) → w.grownBy w' (Value.slice a0 n c0).ownBlock → (v'.ownBlock = (Value.slice a0 n c0).ownBlock ∨ v'.ownBlock = some w.heap.size) → wpList P ops Q rest (a.put o.dst v') w' := by
    intro v' w' h2 h3 h4
    obtain ⟨a', cap', rfl, -, -, -⟩ := owned_slice h2
    rw [ownBlock_slice, ownBlock_slice] at h4
    rw [ownBlock_slice] at h3
    exact hK a' cap' w' (hb.grown h3 hb.size fun k hk => (hown.lt k (by rw [ownBlock_slice]; exact hk)).1) h2 h3 h4
  cases ao with
  | none =>
    obtain rfl := hnone rfl
    obtain rfl : m = 0 := by omega
    have hn : news = [] := List.eq_nil_of_length_eq_zero (by simpa using hl)
    subst hn
    refine wpList_w hgd fun K hK' => ?_
    have hrun := run_append_owned_none (P := P) w w0.heap.size t o.type e i size ht hi _ n xs hown
    unfold Oper.wp execOp
    simp only [ho, resolve, invoke, builtin, Sem.run_bind, Sem.run_pure, Result.andThen_ok, List.map_toArray, List.map_cons, List.map_nil, hs, hx, hrun]
    exact hK' _ _ (fin _ _ (by simpa using hown) (World.grownBy.refl _ _) (Or.inl rfl))
  | some ad =>
    have hnews : ∀ j u, news[j]? = some u → w.cell? (ad.add j) = some u := by
      intro j u hu
      have hj := (List.getElem?_eq_some_iff.1 hu).1
      obtain ⟨b, off, had, hcell⟩ := hr j hj
      obtain rfl := Option.some.inj had
      rw [Addr.add_lit, hcell, ← hu, List.getElem?_eq_getElem hj]
    refine wpList_w hgd fun K hK' => ?_
    obtain ⟨v', w', hrun, h2, h3, -⟩ := run_append_own (P := P) w w0.heap.size t o.type e i z size bytes ht hi hz hsize hby hzs hsz _ n xs hown ad m c news hl hnews h1 h63 hbytes hb.size
    have h4 := append_where w w0.heap.size t o.type e i z size bytes ht hi hz hsize hby _ n xs hown ad m c news hl hnews h1 h63 hbytes hrun
    unfold Oper.wp execOp
    simp only [ho, resolve, invoke, builtin, Sem.run_bind, Sem.run_pure, Result.andThen_ok, List.map_toArray, List.map_cons, List.map_nil, hs, hx, hrun]
    exact hK' _ _ (fin v' w' h2 h3 h4)

theorem grownBy_trans {a b c : World} {row : Option Nat} (h : a.grownBy b row) (k : b.grownBy c row) : a.grownBy c row :=
  ⟨k.os.trans h.os, k.tape.trans h.tape, k.output.trans h.output, Nat.le_trans h.size k.size, fun i hi hne => (k.block i (Nat.lt_of_lt_of_le hi h.size) hne).trans (h.block i hi hne)⟩
theorem grownBy_below {w w' : World} (h : Below w.heap.size w w') (row : Option Nat) : w.grownBy w' row := ⟨h.os, h.tape, h.output, h.size, fun k hk _ => h.block k hk⟩

/-- 'append(s, u)': s is owned, u was laid in the newest block. -/
theorem wpList_append_one {P : Program} {w : World} {ops : Array Oper} {rest : List Oper} {o : Oper} {a : Act} {Q : Exit → Act → World → Prop} (hgd : Region.wanted o (yielded ops a.tmps) = true) (s x : Operand) (t : TypeId)
    (ho : o.op = .call { callee := .builtin .append, args := #[s, x], argTypes := #[t, t] })
    (w0 : World) (hb : Below w0.heap.size w0 w)
    (e : TypeId) (z : Value) (size bytes : Nat) (ht : P.underlying t = some (.slice e)) (hinfo : (P.info? e).map (fun i => (i.zero, i.size, i.bytes)) = some (some z, size, bytes)) (hzs : z.cells.size = size) (hsz : 0 < size)
    (a0 : Option Addr) (n c0 : Nat) (xs us : List Value) (hus : us.length = size) (h1 : ∀ u ∈ us, u.oneCell' = true)
    (hs : a.eval s = .slice a0 n c0) (hown : w.ownsRow w0.heap.size e size (.slice a0 n c0) n xs)
    (hx : a.eval x = .slice (some ⟨w.heap.size, 0, none⟩) 1 1)
    (hbytes : (n + 1) * bytes ≤ 140737488355328) (h63 : n + 1 ≤ maxLen)
    (hK : ∀ a' cap' w', Below w0.heap.size w0 w' → w'.ownsRow w0.heap.size e size (.slice a' (n + 1) cap') (n + 1) (xs ++ us) → w.grownBy w' (blk a0) → (blk a' = blk a0 ∨ ∃ g, blk a' = some g ∧ w.heap.size ≤ g) →
      wpList P ops Q rest (a.put o.dst (.slice a' (n + 1) cap')) w') : wpList P ops Q (o :: rest) a (w.alloc (.cells us.toArray e)) := by
  refine wpList_append_rd hgd s x t ho w0 (hb.alloc hb.size _) e z size bytes ht hinfo hzs hsz a0 n c0 xs hs (hown.alloc _) _ 1 1 us hx (by rw [hus, Nat.one_mul]) (by simp) (Nat.le_refl _) (RdC_new w us e (0, 0)) h1 hbytes h63 ?_
  intro a' cap' w' h2 h3 h4 h5
  refine hK a' cap' w' h2 h3 (grownBy_trans (World.grownBy_alloc w _ _) h4) ?_
  rcases h5 with h5 | h5
  · exact Or.inl h5
  · exact Or.inr ⟨_, h5, by simp⟩

/-- 'append(s, x...)': s is owned, x reads as the cells news (x may be nil). -/
theorem wpList_append_rdb {P : Program} {w : World} {ops : Array Oper} {rest : List Oper} {o : Oper} {a : Act} {Q : Exit → Act → World → Prop} (hgd : Region.wanted o (yielded ops a.tmps) = true) (s x : Operand) (t : TypeId)
    (ho : o.op = .call { callee := .builtin .append, args := #[s, x], argTypes := #[t, t] })
    (base : Nat) (hb : base ≤ w.heap.size)
    (e : TypeId) (z : Value) (size bytes : Nat) (ht : P.underlying t = some (.slice e)) (hinfo : (P.info? e).map (fun i => (i.zero, i.size, i.bytes)) = some (some z, size, bytes)) (hzs : z.cells.size = size) (hsz : 0 < size)
    (a0 : Option Addr) (n c0 : Nat) (xs : List Value) (hs : a.eval s = .slice a0 n c0) (hown : w.ownsRow base e size (.slice a0 n c0) n xs)
    (ao : Option Addr) (m c : Nat) (news : List Value) (hx : a.eval x = .slice ao m c) (hl : news.length = m * size) (hnone : ao = none → c = 0) (hmc : m ≤ c) (hr : RdC w ao news) (h1 : ∀ u ∈ news, u.oneCell' = true)
    (hbytes : (n + m) * bytes ≤ 140737488355328) (h63 : n + m ≤ maxLen)
    (hK : ∀ a' cap' w', w'.ownsRow base e size (.slice a' (n + m) cap') (n + m) (xs ++ news) → w.grownBy w' (blk a0) → (blk a' = blk a0 ∨ blk a' = some w.heap.size) →
      wpList P ops Q rest (a.put o.dst (.slice a' (n + m) cap')) w') : wpList P ops Q (o :: rest) a w := by
  obtain ⟨i, hi, hz, hsize, hby⟩ := info_parts hinfo
  have fin : ∀ v' w', w'.ownsRow base e size v' (n + m) (xs ++ news) → w.grownBy w' (Value.slice a0 n c0).ownBlock → (v'.ownBlock = (Value.slice a0 n c0).ownBlock ∨ v'.ownBlock = some w.heap.size) → wpList P ops Q rest (a.put o.dst v') w' := by
    intro v' w' h2 h3 h4
    obtain ⟨a', cap', rfl, -, -, -⟩ := owned_slice h2
    rw [ownBlock_slice, ownBlock_slice] at h4
    rw [ownBlock_slice] at h3
    exact hK a' cap' w' h2 h3 h4
  cases ao with
  | none =>
    obtain rfl := hnone rfl
    obtain rfl : m = 0 := by omega
    have hn : news = [] := List.eq_nil_of_length_eq_zero (by simpa using hl)
    subst hn
    refine wpList_w hgd fun K hK' => ?_
    have hrun := run_append_owned_none (P := P) w base t o.type e i size ht hi _ n xs hown
    unfold Oper.wp execOp
    simp only [ho, resolve, invoke, builtin, Sem.run_bind, Sem.run_pure, Result.andThen_ok, List.map_toArray, List.map_cons, List.map_nil, hs, hx, hrun]
    exact hK' _ _ (fin _ _ (by simpa using hown) (World.grownBy.refl _ _) (Or.inl rfl))
  | some ad =>
    have hnews : ∀ j u, news[j]? = some u → w.cell? (ad.add j) = some u := by
      intro j u hu
      have hj := (List.getElem?_eq_some_iff.1 hu).1
      obtain ⟨b, off, had, hcell⟩ := hr j hj
      obtain rfl := Option.some.inj had
      rw [Addr.add_lit, hcell, ← hu, List.getElem?_eq_getElem hj]
    refine wpList_w hgd fun K hK' => ?_
    obtain ⟨v', w', hrun, h2, h3, -⟩ := run_append_own (P := P) w base t o.type e i z size bytes ht hi hz hsize hby hzs hsz _ n xs hown ad m c news hl hnews h1 h63 hbytes hb
    have h4 := append_where w base t o.type e i z size bytes ht hi hz hsize hby _ n xs hown ad m c news hl hnews h1 h63 hbytes hrun
    unfold Oper.wp execOp
    simp only [ho, resolve, invoke, builtin, Sem.run_bind, Sem.run_pure, Result.andThen_ok, List.map_toArray, List.map_cons, List.map_nil, hs, hx, hrun]
    exact hK' _ _ (fin v' w' h2 h3 h4)

/-- 'append(s, u)': s is owned, u was laid in the newest block. -/
theorem wpList_append_oneb {P : Program} {w : World} {ops : Array Oper} {rest : List Oper} {o : Oper} {a : Act} {Q : Exit → Act → World → Prop} (hgd : Region.wanted o (yielded ops a.tmps) = true) (s x : Operand) (t : TypeId)
    (ho : o.op = .call { callee := .builtin .append, args := #[s, x], argTypes := #[t, t] })
    (base : Nat) (hb : base ≤ w.heap.size)
    (e : TypeId) (z : Value) (size bytes : Nat) (ht : P.underlying t = some (.slice e)) (hinfo : (P.info? e).map (fun i => (i.zero, i.size, i.bytes)) = some (some z, size, bytes)) (hzs : z.cells.size = size) (hsz : 0 < size)
    (a0 : Option Addr) (n c0 : Nat) (xs us : List Value) (hus : us.length = size) (h1 : ∀ u ∈ us, u.oneCell' = true)
    (hs : a.eval s = .slice a0 n c0) (hown : w.ownsRow base e size (.slice a0 n c0) n xs)
    (hx : a.eval x = .slice (some ⟨w.heap.size, 0, none⟩) 1 1)
    (hbytes : (n + 1) * bytes ≤ 140737488355328) (h63 : n + 1 ≤ maxLen)
    (hK : ∀ a' cap' w', w'.ownsRow base e size (.slice a' (n + 1) cap') (n + 1) (xs ++ us) → w.grownBy w' (blk a0) → (blk a' = blk a0 ∨ ∃ g, blk a' = some g ∧ w.heap.size ≤ g) →
      wpList P ops Q rest (a.put o.dst (.slice a' (n + 1) cap')) w') : wpList P ops Q (o :: rest) a (w.alloc (.cells us.toArray e)) := by
  refine wpList_append_rdb hgd s x t ho base (by simp; omega) e z size bytes ht hinfo hzs hsz a0 n c0 xs hs (hown.alloc _) _ 1 1 us hx (by rw [hus, Nat.one_mul]) (by simp) (Nat.le_refl _) (RdC_new w us e (0, 0)) h1 hbytes h63 ?_
  intro a' cap' w' h3 h4 h5
  refine hK a' cap' w' h3 (grownBy_trans (World.grownBy_alloc w _ _) h4) ?_
  rcases h5 with h5 | h5
  · exact Or.inl h5
  · exact Or.inr ⟨_, h5, by simp⟩

theorem own_below {w w' : World} {base : Nat} {e : TypeId} {size : Nat} {v : Value} {n : Nat} {xs : List Value} (h : w.ownsRow base e size v n xs) (hb : Below w.heap.size w w') : w'.ownsRow base e size v n xs :=
  h.kept (grownBy_below hb none) (by cases hv : v.ownBlock <;> simp)

/-- the block of p is there, and it is not that of q -/
def ApartB (w : World) (p q : Option Addr) : Prop := ∀ b, blk p = some b → b < w.heap.size ∧ blk q ≠ some b
theorem ApartB.rd {w w' : World} {p q : Option Addr} {xs : List Value} (h : ApartB w p q) (hr : RdC w p xs) (hg : w.grownBy w' (blk q)) : RdC w' p xs :=
  hr.grown hg (by cases e : blk p with | none => exact Or.inl rfl | some b => right; intro e2; exact (h b e).2 e2.symm)
theorem ApartB.next {w w' : World} {p q q' : Option Addr} (h : ApartB w p q) (hs : w.heap.size ≤ w'.heap.size) (hq : blk q' = blk q ∨ ∃ g, blk q' = some g ∧ w.heap.size ≤ g) : ApartB w' p q' := by
  intro b hb
  obtain ⟨h1, h2⟩ := h b hb
  refine ⟨by omega, ?_⟩
  rcases hq with hq | ⟨g, hq, hg⟩
  · rw [hq]; exact h2
  · rw [hq]; intro e; have := Option.some.inj e; omega
/-- a row that was made later lies apart from what was owned before -/
theorem ApartB.later {w w' : World} {base e e' size size' : Nat} {p q : Option Addr} {n c n' c' : Nat} {xs ys : List Value} (hp : w'.ownsRow w.heap.size e size (.slice p n c) n xs) (hq : w.ownsRow base e' size' (.slice q n' c') n' ys) : ApartB w' p q := by
  intro b hb
  have h1 := hp.lt b (by rw [ownBlock_slice]; exact hb)
  refine ⟨h1.2, fun e => ?_⟩
  have h2 := hq.lt b (by rw [ownBlock_slice]; exact e)
  omega

/-- a block that was laid last reads as it was laid when the world has only grown -/
theorem keptN {w w1 : World} {cs : Array Value} {T : TypeId} (hb : Below (w.alloc (.cells cs T)).heap.size (w.alloc (.cells cs T)) w1) (j : Nat) :
    w1.cell? ⟨w.heap.size, j, none⟩ = cs[j]? ∧ w1.frozen? ⟨w.heap.size, j, none⟩ = false := by
  have hh : (w.alloc (.cells cs T)).heap[w.heap.size]? = some (.cells cs T) := heap_alloc_new w _
  constructor
  · rw [hb.cell (p := ⟨w.heap.size, j, none⟩) (by simp)]
    exact cell_of_row _ _ j cs T (0, 0) hh
  · rw [hb.frozen (p := ⟨w.heap.size, j, none⟩) (by simp)]
    exact frozen_of_row _ _ j cs T hh
theorem kept_lt {w w1 : World} {o : Obj} (hb : Below (w.alloc o).heap.size (w.alloc o) w1) : w.heap.size < w1.heap.size := by
  have := hb.size; simp at this; omega
theorem kept_below {w w1 : World} {o : Obj} (hb : Below (w.alloc o).heap.size (w.alloc o) w1) : Below w.heap.size w w1 :=
  ((Below.refl w.heap.size w).alloc (Nat.le_refl _) _).trans (hb.mono (by simp))
theorem keptM {w w1 : World} {A : Obj} {cs : Array Value} {T : TypeId} (hb : Below ((w.alloc A).alloc (.cells cs T)).heap.size ((w.alloc A).alloc (.cells cs T)) w1) (j : Nat) :
    w1.cell? ⟨w.heap.size + 1, j, none⟩ = cs[j]? ∧ w1.frozen? ⟨w.heap.size + 1, j, none⟩ = false := by
  have h := keptN hb j
  simpa only [World.size_alloc] using h
theorem keptM_lt {w w1 : World} {A B : Obj} (hb : Below ((w.alloc A).alloc B).heap.size ((w.alloc A).alloc B) w1) : w.heap.size + 1 < w1.heap.size := by
  have := hb.size; simp at this; omega
theorem kept2 {w w1 : World} {x y : Value} {T : TypeId} (hb : Below (w.alloc (.cells #[x, y] T)).heap.size (w.alloc (.cells #[x, y] T)) w1) :
    (w1.cell? ⟨w.heap.size, 0, none⟩ = some x ∧ w1.cell? ⟨w.heap.size, 1, none⟩ = some y) ∧ (w1.frozen? ⟨w.heap.size, 0, none⟩ = false ∧ w1.frozen? ⟨w.heap.size, 1, none⟩ = false) ∧ w.heap.size < w1.heap.size ∧ Below w.heap.size w w1 :=
  ⟨⟨(keptN hb 0).1, (keptN hb 1).1⟩, ⟨(keptN hb 0).2, (keptN hb 1).2⟩, kept_lt hb, kept_below hb⟩

/-- the block g holds the cells xs from its head on, and they may be written -/
def MutC (w : World) (g : Nat) (xs : List Value) : Prop := ∀ k (h : k < xs.length), w.cell? ⟨g, k, none⟩ = some xs[k] ∧ w.frozen? ⟨g, k, none⟩ = false
theorem MutC.rd {w : World} {g : Nat} {xs : List Value} (h : MutC w g xs) : RdC w (some ⟨g, 0, none⟩) xs := fun k hk => ⟨g, 0, rfl, by rw [Nat.zero_add]; exact (h k hk).1⟩
theorem MutC.set {w : World} {g : Nat} {xs : List Value} (h : MutC w g xs) (k : Nat) (hk : k < xs.length) (u : Value) : MutC (w.setCell ⟨g, k, none⟩ u) g (xs.set k u) := by
  intro j hj
  have hj' : j < xs.length := by rw [List.length_set] at hj; exact hj
  refine ⟨?_, by rw [World.frozen?_setCell]; exact (h j hj').2⟩
  by_cases e : j = k
  · subst e
    rw [World.cell?_setCell_same _ _ _ (h j hj').1]
    simp
  · rw [World.cell?_setCell_other _ _ _ _ (by intro h; simp only [Addr.mk.injEq] at h; omega), (h j hj').1]
    simp [Ne.symm e]

/-- '[]byte(s)': a new block, of which the bytes may be written. -/
theorem wpList_strbytes_mut {P : Program} {w : World} {ops : Array Oper} {rest : List Oper} {o : Oper} {a : Act} {Q : Exit → Act → World → Prop}
    (hg : Region.wanted o (yielded ops a.tmps) = true) (src dst : TypeId) (x : Operand) (hop : o.op = Op.convert src dst x) (s : ByteArray) (hx : a.eval x = .string s)
    (e : TypeId) (hs : P.underlying src = some .string) (hd : P.underlying dst = some (.slice e)) (he : P.underlying e = some (.int .u8))
    (hK : ∀ g cap w', Below w.heap.size w w' → w.heap.size ≤ g → g < w'.heap.size → s.size ≤ cap → cap ≤ maxLen → MutC w' g (bytesV s.data.toList) → wpList P ops Q rest (a.put o.dst (.slice (some ⟨g, 0, none⟩) s.size cap)) w')
    (hsz : s.size ≤ maxLen) : wpList P ops Q (o :: rest) a w := by
  refine wpList_w hg fun K hK' => ?_
  have hrun := run_bytes_of_string (P := P) w src dst e s hs hd he
  unfold Oper.wp
  simp [execOp, hop, hx, hrun, Result.andThen]
  refine hK' _ _ (hK _ _ _ ((Below.refl _ _).drew.alloc (Nat.le_refl _) _) (Nat.le_refl _) (by simp) (grownCap_ge _ _ _ _) (grownCap_le_maxLen _ _ _ _ hsz) ?_)
  intro k hk
  rw [bytesV_length, Array.length_toList] at hk
  have h1 := World.cell?_alloc_mark w.drew (bytesRow s (grownCap w s.size 0 e)) e ((bytesRow s (grownCap w s.size 0 e)).size, (bytesRow s (grownCap w s.size 0 e)).size + 1) k
  have h2 := World.frozen?_alloc_mark w.drew (bytesRow s (grownCap w s.size 0 e)) e (bytesRow s (grownCap w s.size 0 e)).size ((bytesRow s (grownCap w s.size 0 e)).size + 1) k
  refine ⟨h1.trans ?_, h2.trans ?_⟩
  · rw [bytesRow_at s _ k hk]
    simp [bytesV, byteV]
  · have hsz2 : s.data.size ≤ (bytesRow s (grownCap w s.size 0 e)).size := by simp [bytesRow]
    simp only [Bool.and_eq_false_iff, decide_eq_false_iff_not]
    omega

/-- 'string(b)' -/
theorem wpList_bytesstr {P : Program} {w : World} {ops : Array Oper} {rest : List Oper} {o : Oper} {a : Act} {Q : Exit → Act → World → Prop}
    (hg : Region.wanted o (yielded ops a.tmps) = true) (src dst : TypeId) (x : Operand) (hop : o.op = Op.convert src dst x) (ao : Option Addr) (n cap : Nat) (hx : a.eval x = .slice ao n cap)
    (e : TypeId) (hs : P.underlying src = some (.slice e)) (he : P.underlying e = some (.int .u8)) (hd : P.underlying dst = some .string)
    (l : List UInt8) (hn : n = l.length) (hr : RdC w ao (bytesV l))
    (hK : wpList P ops Q rest (a.put o.dst (.string ⟨l.toArray⟩)) w) : wpList P ops Q (o :: rest) a w := by
  refine wpList_w hg fun K hK' => ?_
  have hrun : (convert src dst (.slice ao n cap)).run P w = .ok (.string ⟨l.toArray⟩) w := by
    subst hn
    cases ao with
    | none =>
      have hl : l = [] := by
        cases l with
        | nil => rfl
        | cons c l => obtain ⟨b, off, h, -⟩ := hr 0 (by simp [bytesV]); cases h
      subst hl
      rw [run_convert_bytes_string w src dst e none _ cap hs he hd]
      rfl
    | some ad =>
      refine run_convert_bytes_back w src dst e ad cap l hs he hd ?_
      intro j hj
      obtain ⟨b, off, had, hc⟩ := hr.byte j hj
      obtain rfl := Option.some.inj had
      rw [Addr.add_lit]
      exact hc
  unfold Oper.wp
  simp [execOp, hop, hx, hrun, Result.andThen]
  exact hK' _ _ hK

theorem bytesV_one (l : List UInt8) : ∀ u ∈ bytesV l, u.oneCell' = true := by
  intro u hu
  obtain ⟨_, _, rfl⟩ := List.mem_map.1 hu
  rfl
theorem strsV_one (l : List ByteArray) : ∀ u ∈ strsV l, u.oneCell' = true := by
  intro u hu
  obtain ⟨_, _, rfl⟩ := List.mem_map.1 hu
  rfl

theorem RdC_new' (w : World) (cs : List Value) (e : TypeId) (fz : Nat × Nat) (n : Nat) (h : n = w.heap.size) : RdC (w.alloc (.cells cs.toArray e fz)) (some ⟨n, 0, none⟩) cs := by
  subst h; exact RdC_new w cs e fz
theorem ret_int {k : IntKind} {a b : Int} (h : a = b) : Ending.returned (.int k a) = .returned (.int k b) := by rw [h]
theorem ret_bool {a b : Bool} (h : a = b) : Ending.returned (.bool a) = .returned (.bool b) := by rw [h]
theorem ret_str {a b : ByteArray} (h : a = b) : Ending.returned (.string a) = .returned (.string b) := by rw [h]

end Go.Own
