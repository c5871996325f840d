/- Small notions that all walks of this claim share: how a slice reads, and that a reading stays while the world only grows. -/
import Derived.WalkKit
import Derived.WalkSpells
import Derived.WalkLawsBesides
import Derived.Lib.Hide
import Derived.ProofKit
import Derived.OpenShut
import Derived.ShutString
import Derived.ChangeOld
import Derived.SliceStrings
namespace Go.Own
open Go.RowKit

/-- The address a leads to the cells xs. -/
def RdC (w : World) (a : Option Addr) (xs : List Value) : Prop :=
  ∀ k (h : k < xs.length), ∃ b off, a = some ⟨b, off, none⟩ ∧ w.cell? ⟨b, off + k, none⟩ = some xs[k]

/-- v is a slice of n elements that reads as the cells xs. -/
def Rd (w : World) (v : Value) (n : Nat) (xs : List Value) : Prop :=
  ∃ a cap, v = .slice a n cap ∧ n ≤ cap ∧ cap ≤ maxLen ∧ (a = none → cap = 0) ∧ RdC w a xs

theorem RdC.below {w w' : World} {a : Option Addr} {xs : List Value} (h : RdC w a xs) (hb : Below w.heap.size w w') : RdC w' a xs := by
  intro k hk
  obtain ⟨b, off, ha, hc⟩ := h k hk
  refine ⟨b, off, ha, ?_⟩
  rw [hb.cell (p := ⟨b, off + k, none⟩) (World.block_lt_of_cell? w _ hc)]
  exact hc

theorem Rd.below {w w' : World} {v : Value} {n : Nat} {xs : List Value} (h : Rd w v n xs) (hb : Below w.heap.size w w') : Rd w' v n xs := by
  obtain ⟨a, cap, hv, h1, h2, h3, hc⟩ := h
  exact ⟨a, cap, hv, h1, h2, h3, hc.below hb⟩

theorem Below.self_trans {a b c : World} (h : Below a.heap.size a b) (k : Below b.heap.size b c) : Below a.heap.size a c :=
  h.trans (k.mono h.size)

/-- bytes as cells -/
def byteV (c : UInt8) : Value := .int .u8 (c.toNat : Int)
def bytesV (l : List UInt8) : List Value := l.map byteV
theorem bytesV_length (l : List UInt8) : (bytesV l).length = l.length := List.length_map ..

/-- a []byte reads as l -/
def RdB (w : World) (v : Value) (l : List UInt8) : Prop := Rd w v l.length (bytesV l)

theorem RdB.below {w w' : World} {v : Value} {l : List UInt8} (h : RdB w v l) (hb : Below w.heap.size w w') : RdB w' v l := Rd.below h hb

theorem RdB_nil (w : World) : RdB w (.slice none 0 0) [] :=
  ⟨none, 0, rfl, Nat.le_refl _, by simp [maxLen], fun _ => rfl, fun k hk => absurd hk (Nat.not_lt_zero _)⟩

theorem RdB_of {w : World} {a : Option Addr} {n cap : Nat} {l : List UInt8} (hn : n = l.length) (h1 : n ≤ cap) (h2 : cap ≤ maxLen) (h3 : a = none → cap = 0) (hc : RdC w a (bytesV l)) : RdB w (.slice a n cap) l := by
  subst hn
  exact ⟨a, cap, rfl, h1, h2, h3, hc⟩
theorem size_toList (s : ByteArray) : s.size = s.data.toList.length := by rw [Array.length_toList]; rfl

theorem RdC.byte {w : World} {a : Option Addr} {l : List UInt8} (h : RdC w a (bytesV l)) (k : Nat) (hk : k < l.length) :
    ∃ b off, a = some ⟨b, off, none⟩ ∧ w.cell? ⟨b, off + k, none⟩ = some (.int .u8 (l[k].toNat : Int)) := by
  obtain ⟨b, off, ha, hc⟩ := h k (by rw [bytesV_length]; exact hk)
  refine ⟨b, off, ha, ?_⟩
  rw [hc]
  simp [bytesV, byteV]

/-- strings as cells -/
def strsV (l : List ByteArray) : List Value := l.map .string
theorem strsV_length (l : List ByteArray) : (strsV l).length = l.length := List.length_map ..
def RdS (w : World) (v : Value) (l : List ByteArray) : Prop := Rd w v l.length (strsV l)
theorem RdS.below {w w' : World} {v : Value} {l : List ByteArray} (h : RdS w v l) (hb : Below w.heap.size w w') : RdS w' v l := Rd.below h hb
theorem RdS_nil (w : World) : RdS w (.slice none 0 0) [] :=
  ⟨none, 0, rfl, Nat.le_refl _, by simp [maxLen], fun _ => rfl, fun k hk => absurd hk (Nat.not_lt_zero _)⟩
theorem RdC.str {w : World} {a : Option Addr} {l : List ByteArray} (h : RdC w a (strsV l)) (k : Nat) (hk : k < l.length) :
    ∃ b off, a = some ⟨b, off, none⟩ ∧ w.cell? ⟨b, off + k, none⟩ = some (.string l[k]) := by
  obtain ⟨b, off, ha, hc⟩ := h k (by rw [strsV_length]; exact hk)
  refine ⟨b, off, ha, ?_⟩
  rw [hc]
  simp [strsV]

/-- what is owned reads -/
theorem RdC_owned {w : World} {base : Nat} {e : TypeId} {size : Nat} {g n cap : Nat} {xs : List Value} (h : w.ownsRow base e size (.slice (some ⟨g, 0, none⟩) n cap) n xs) : RdC w (some ⟨g, 0, none⟩) xs := by
  intro k hk
  refine ⟨g, 0, rfl, ?_⟩
  have := h.cellAt k (by rw [← h.1]; exact hk)
  rw [Nat.zero_add, this, List.getElem?_eq_getElem hk]

theorem Rd_owned {w : World} {base : Nat} {e : TypeId} {size : Nat} {v : Value} {n : Nat} {xs : List Value} (h : w.ownsRow base e size v n xs) : Rd w v n xs := by
  rcases h.2 with ⟨rfl, rfl⟩ | ⟨g, cap, cur, rfl, hb, hg, hn, hm, hs, ht⟩
  · have : xs = [] := List.eq_nil_of_length_eq_zero (by simpa using h.1)
    subst this
    exact ⟨none, 0, rfl, Nat.le_refl _, by simp [maxLen], fun _ => rfl, fun k hk => absurd hk (Nat.not_lt_zero _)⟩
  · exact ⟨_, cap, rfl, hn, hm, by simp, RdC_owned h⟩

/-- the first k elements (of one cell each) -/
theorem RdC.take {w : World} {a : Option Addr} {xs : List Value} (h : RdC w a xs) (k : Nat) : RdC w a (xs.take k) := by
  intro j hj
  obtain ⟨b, off, ha, hc⟩ := h j (by rw [List.length_take] at hj; omega)
  exact ⟨b, off, ha, by rw [hc, List.getElem_take]⟩
theorem Rd_take {w : World} {a : Option Addr} {cap : Nat} {xs : List Value} (h : RdC w a xs) (k : Nat) (h2 : cap ≤ maxLen) (h3 : a = none → cap = 0) (h4 : k ≤ cap) : Rd w (.slice a k cap) k (xs.take k) :=
  ⟨a, cap, rfl, h4, h2, h3, h.take k⟩

/-- a contract that leaves the world alone, its world forgotten -/
theorem same_below {P : Program} {f : FuncId} {args : Array Value} {w : World} {R : Ending → Prop} (h : Calls P f args w fun e w' => R e ∧ w = w') :
    Calls P f args w fun e w' => R e ∧ Below w.heap.size w w' :=
  h.mono fun e w' ⟨he, hw⟩ => ⟨he, hw ▸ Below.refl _ _⟩

/-- a literal block just laid -/
theorem RdC_new (w : World) (cs : List Value) (e : TypeId) (fz : Nat × Nat) : RdC (w.alloc (.cells cs.toArray e fz)) (some ⟨w.heap.size, 0, none⟩) cs := by
  intro k hk
  refine ⟨w.heap.size, 0, rfl, ?_⟩
  have := cell_of_row (w.alloc (.cells cs.toArray e fz)) w.heap.size (0 + k) cs.toArray e fz (heap_alloc_new w _)
  rw [this]
  simp [hk]

/-- '[]byte(s)', the world behind it under a name of its own. -/
theorem wpList_strbytes {P : Program} {w : World} {ops : Array Oper} {rest : List Oper} {o : Oper} {a : Act} {Q : Exit → Act → World → Prop}
    (hg : o.guard = none) (src dst : TypeId) (x : Operand) (hop : o.op = Op.convert src dst x) (s : ByteArray) (hx : a.eval x = .string s)
    (e : TypeId) (hs : P.underlying src = some .string) (hd : P.underlying dst = some (.slice e)) (he : P.underlying e = some (.int .u8))
    (hK : ∀ ad cap w', Below w.heap.size w w' → s.size ≤ cap → cap ≤ maxLen → RdC w' (some ad) (bytesV s.data.toList) → wpList P ops Q rest (a.put o.dst (.slice (some ad) s.size cap)) w')
    (hsz : s.size ≤ maxLen) : wpList P ops Q (o :: rest) a w := by
  refine wpList_plain hg fun K hK' => ?_
  have hrun := run_bytes_of_string (P := P) w src dst e s hs hd he
  unfold Oper.wp
  simp [execOp, hop, hx, hrun, Result.andThen]
  refine hK' _ _ (hK _ _ _ ((Below.refl _ _).drew.alloc (Nat.le_refl _) _) (grownCap_ge _ _ _ _) (grownCap_le_maxLen _ _ _ _ hsz) ?_)
  intro k hk
  rw [bytesV_length, Array.length_toList] at hk
  refine ⟨w.heap.size, 0, rfl, ?_⟩
  have h1 := World.cell?_alloc_mark w.drew (bytesRow s (grownCap w s.size 0 e)) e ((bytesRow s (grownCap w s.size 0 e)).size, (bytesRow s (grownCap w s.size 0 e)).size + 1) (0 + k)
  rw [Nat.zero_add] at h1
  rw [Nat.zero_add]
  refine h1.trans ?_
  rw [bytesRow_at s _ k hk]
  simp [bytesV, byteV]

/-- what is owned has its shape written out -/
theorem owned_slice {w : World} {base : Nat} {e : TypeId} {size : Nat} {v : Value} {n : Nat} {xs : List Value} (h : w.ownsRow base e size v n xs) :
    ∃ a cap, v = .slice a n cap ∧ n ≤ cap ∧ cap ≤ maxLen ∧ (a = none → cap = 0) := by
  rcases h.2 with ⟨rfl, rfl⟩ | ⟨g, cap, cur, rfl, hb, hg, hn, hm, hs, ht⟩
  · exact ⟨none, 0, rfl, Nat.le_refl _, by simp [maxLen], fun _ => rfl⟩
  · exact ⟨_, cap, rfl, hn, hm, by simp⟩

/-- 'append(s, x...)': s is owned, x reads as the cells news (x may be nil). -/
theorem wpList_append_rd {P : Program} {w : World} {ops : Array Oper} {rest : List Oper} {o : Oper} {a : Act} {Q : Exit → Act → World → Prop} (hgd : o.guard = none) (s x : Operand) (t : TypeId)
    (ho : o.op = .call { callee := .builtin .append, args := #[s, x], argTypes := #[t, t] })
    (w0 : World) (hb : Below w0.heap.size w0 w)
    (e : TypeId) (z : Value) (size bytes : Nat) (ht : P.underlying t = some (.slice e)) (hinfo : (P.info? e).map (fun i => (i.zero, i.size, i.bytes)) = some (some z, size, bytes)) (hzs : z.cells.size = size) (hsz : 0 < size)
    (a0 : Option Addr) (n c0 : Nat) (xs : List Value) (hs : a.eval s = .slice a0 n c0) (hown : w.ownsRow w0.heap.size e size (.slice a0 n c0) n xs)
    (ao : Option Addr) (m c : Nat) (news : List Value) (hx : a.eval x = .slice ao m c) (hl : news.length = m * size) (hnone : ao = none → c = 0) (hmc : m ≤ c) (hr : RdC w ao news) (h1 : ∀ u ∈ news, u.oneCell' = true)
    (hbytes : (n + m) * bytes ≤ 140737488355328) (h63 : n + m ≤ maxLen)
    (hK : ∀ a' cap' w', Below w0.heap.size w0 w' → w'.ownsRow w0.heap.size e size (.slice a' (n + m) cap') (n + m) (xs ++ news) → w.grownBy w' (Value.slice a0 n c0).ownBlock →
      wpList P ops Q rest (a.put o.dst (.slice a' (n + m) cap')) w') : wpList P ops Q (o :: rest) a w := by
  obtain ⟨i, hi, hz, hsize, hby⟩ := info_parts hinfo
  have fin : ∀ v' w', w'.ownsRow w0.heap.size e size v' (n + m) (xs ++ news) → w.grownBy w' (Value.slice a0 n c0).ownBlock → wpList P ops Q rest (a.put o.dst v') w' := by
    intro v' w' h2 h3
    obtain ⟨a', cap', rfl, -, -, -⟩ := owned_slice h2
    exact hK a' cap' w' (hb.grown h3 hb.size fun k hk => (hown.lt k hk).1) h2 h3
  cases ao with
  | none =>
    obtain rfl := hnone rfl
    obtain rfl : m = 0 := by omega
    have hn : news = [] := List.eq_nil_of_length_eq_zero (by simpa using hl)
    subst hn
    refine wpList_plain hgd fun K hK' => ?_
    have hrun := run_append_owned_none (P := P) w w0.heap.size t o.type e i size ht hi _ n xs hown
    unfold Oper.wp execOp
    simp only [ho, resolve, invoke, builtin, Sem.run_bind, Sem.run_pure, Result.andThen_ok, List.map_toArray, List.map_cons, List.map_nil, hs, hx, hrun]
    exact hK' _ _ (fin _ _ (by simpa using hown) (World.grownBy.refl _ _))
  | some ad =>
    refine wpList_append_own w hgd s x t ho w0.heap.size e i z size bytes ht hi hz hsize hby hzs hsz _ n xs hs hown ad m c news hx hl ?_ h1 h63 hbytes hb.size (fun v' w' h2 h3 _ => fin v' w' h2 h3)
    intro j u hu
    have hj := (List.getElem?_eq_some_iff.1 hu).1
    obtain ⟨b, off, had, hcell⟩ := hr j hj
    obtain rfl := Option.some.inj had
    rw [Addr.add_lit, hcell, ← hu, List.getElem?_eq_getElem hj]

theorem bytesV_one (l : List UInt8) : ∀ u ∈ bytesV l, u.oneCell' = true := by
  intro u hu
  obtain ⟨_, _, rfl⟩ := List.mem_map.1 hu
  rfl
theorem strsV_one (l : List ByteArray) : ∀ u ∈ strsV l, u.oneCell' = true := by
  intro u hu
  obtain ⟨_, _, rfl⟩ := List.mem_map.1 hu
  rfl

theorem ret_int {k : IntKind} {a b : Int} (h : a = b) : Ending.returned (.int k a) = .returned (.int k b) := by rw [h]
theorem ret_bool {a b : Bool} (h : a = b) : Ending.returned (.bool a) = .returned (.bool b) := by rw [h]
theorem ret_str {a b : ByteArray} (h : a = b) : Ending.returned (.string a) = .returned (.string b) := by rw [h]

end Go.Own
