/- made of layer 29. -/
import Derived.Test.YtfmokccoilgpmaaGreatDoorInp
import Derived.Test.YtfmokccoilgpmaaGreatDoorSConf
import Derived.Test.YtfmokccoilgpmaaGreatDoorStepM
namespace Go.Proofs.YtfmokccoilgpmaaGreatDoor
open Go.RowKit Go.Own
set_option linter.unusedVariables false
set_option linter.unusedSimpArgs false
set_option maxHeartbeats 4000000
set_option maxRecDepth 100000

def reqO (m t : ByteArray) (n : Int) (vf : Value) (fr : Bool) (vb : Value) : Obj := .cells #[.string m, .string t, .int .i64 n, vf, .bool fr, vb] 35
/-- a request as the laws make them, as far as its sizes go -/
def ReqP (m t : ByteArray) (x : List Fld) : Prop := m.size ≤ 4 ∧ t.size ≤ 8 ∧ x.length ≤ 6 ∧ ∀ f ∈ x, f.name.size ≤ 15 ∧ f.val.size ≤ 28
theorem reqP_of {m t : ByteArray} {n : Int} {x : List Fld} {fr : Bool} {b : List UInt8} (h : MadeR m t n x fr b) : ReqP m t x :=
  ⟨(reqMs_ok m h.1.1).2, (reqTs_ok t h.1.2.1).2, h.2.1.2.1, fun f hf => ⟨(h.2.1.1 f hf).2.1, (h.2.1.1 f hf).2.2⟩⟩
def ReqW (B : Nat) (W : World) (g : Nat) : Prop := ∃ m t n vf x fr vb b, W.heap[g]? = some (reqO m t n vf fr vb) ∧ ReqP m t x ∧ OwnF B W vf x ∧ OwnY B W vb b
/-- the values a configuration has -/
structure Cf where
  (a0 a1 a2 a3 a4 a5 a6 a7 a8 a9 a10 a11 a12 a13 a14 a15 : Int)
  P : Pl
  salt : ByteArray
  mir : Bool
def Cf.cells (c : Cf) (vw vig : Value) : List Value := [.int .i64 c.a0, .int .i64 c.a1, .int .i64 c.a2, .int .i64 c.a3, .int .i64 c.a4, .int .i64 c.a5, .int .i64 c.a6, .int .i64 c.a7, .int .i64 c.a8, .int .i64 c.a9, .int .i64 c.a10, .int .i64 c.a11, .int .i64 c.a12, .int .i64 c.a13, .int .i64 c.a14, .int .i64 c.a15, vw, .int .i64 c.P.ms, .int .i64 c.P.num, .int .i64 c.P.den, .int .i64 c.P.hold, .int .i64 c.P.win, .string c.salt, .string ⟨#[99, 111, 104, 111, 114, 116]⟩, .bool c.mir, vig]
def Cf.obj (c : Cf) (vw vig : Value) : Obj := .cells (c.cells vw vig).toArray 28
theorem cf_one (c : Cf) (vw vig : Value) (h1 : vw.oneCell' = true) (h2 : vig.oneCell' = true) : ((c.cells vw vig).toArray).all (·.oneCell') = true := by
  refine all_one ?_
  intro v hv
  simp only [Cf.cells, List.mem_cons, List.not_mem_nil, or_false] at hv
  rcases hv with rfl | rfl | rfl | rfl | rfl | rfl | rfl | rfl | rfl | rfl | rfl | rfl | rfl | rfl | rfl | rfl | rfl | rfl | rfl | rfl | rfl | rfl | rfl | rfl | rfl | rfl <;> first | rfl | assumption

theorem run_load_row {P : Program} {w : World} {ρ : Operand → Value} {o : Oper} {ty : TypeId} {x : Operand} {g : Nat} {t : TypeId} {cs : Array Value} {fr : Nat × Nat} (d : TypeDesc) (ho : o.op = .load ty x) (hx : ρ x = .pointer (some ⟨g, 0, none⟩)) (hg : w.heap[g]? = some (.cells cs t fr))
    (hu : P.underlying ty = some d) (hd : (match d with | .struct _ | .array _ _ => true | _ => false) = true) (hi : (P.info? ty).map (·.size) = some cs.size) : (execOp ρ o).run P w = .ok (.value (.agg cs)) w := by
  unfold execOp
  simp only [ho, hx, Instr.loadAt, Instr.sureAddr, Sem.run_bind, Sem.run_pure, Result.andThen_ok, run_loadVar_row w g t ty cs fr d hg hu hd hi]
theorem run_store_row {P : Program} {w : World} {ρ : Operand → Value} {o : Oper} {ty : TypeId} {x y : Operand} {g : Nat} {t : TypeId} {cs old : Array Value} (ho : o.op = .store ty x y) (hx : ρ x = .pointer (some ⟨g, 0, none⟩)) (hy : ρ y = .agg cs) (hg : w.heap[g]? = some (.cells old t (0, 0)))
    (hi : (P.info? ty).map (·.size) = some cs.size) (hold : old.size = cs.size) (h1 : cs.all (·.oneCell') = true) : (execOp ρ o).run P w = .ok .skip (w.setRow g cs) := by
  unfold execOp
  simp only [ho, hx, hy, Instr.storeAt, Instr.sureAddr, Sem.run_bind, Sem.run_pure, Result.andThen_ok, run_storeVar_row w g t ty old cs hg hi hold h1]

theorem cfFacts (c : Cf) (vw vig : Value) (h1 : vw.oneCell' = true) (h2 : vig.oneCell' = true) : (c.cells vw vig).toArray.size = 26 ∧ ((c.cells vw vig).toArray).all (·.oneCell') = true ∧
    ((c.cells vw vig).toArray[16]? = some vw ∧ (c.cells vw vig).toArray[17]? = some (.int .i64 c.P.ms) ∧ (c.cells vw vig).toArray[18]? = some (.int .i64 c.P.num) ∧ (c.cells vw vig).toArray[19]? = some (.int .i64 c.P.den) ∧ (c.cells vw vig).toArray[20]? = some (.int .i64 c.P.hold) ∧ (c.cells vw vig).toArray[21]? = some (.int .i64 c.P.win)) :=
  ⟨rfl, cf_one c vw vig h1 h2, rfl, rfl, rfl, rfl, rfl, rfl⟩
theorem results_cell3 {P : Program} {fn : Func} {p1 p2 p3 : Tmp} {t1 t2 t3 : TypeId} (h : fn.results = #[.cell p1 t1, .cell p2 t2, .cell p3 t3]) (tmps : Array Value) (w : World) {g1 g2 g3 : Nat} {u1 u2 u3 : TypeId} {c1 c2 c3 : Array Value} {f1 f2 f3 : Nat × Nat} (d1 d2 d3 : TypeDesc)
    (hp1 : tmps.getD p1 undef = .pointer (some ⟨g1, 0, none⟩)) (hp2 : tmps.getD p2 undef = .pointer (some ⟨g2, 0, none⟩)) (hp3 : tmps.getD p3 undef = .pointer (some ⟨g3, 0, none⟩))
    (hg1 : w.heap[g1]? = some (.cells c1 u1 f1)) (hg2 : w.heap[g2]? = some (.cells c2 u2 f2)) (hg3 : w.heap[g3]? = some (.cells c3 u3 f3))
    (hu1 : P.underlying t1 = some d1) (hd1 : (match d1 with | .struct _ | .array _ _ => true | _ => false) = true) (hi1 : (P.info? t1).map (·.size) = some c1.size)
    (hu2 : P.underlying t2 = some d2) (hd2 : (match d2 with | .struct _ | .array _ _ => true | _ => false) = true) (hi2 : (P.info? t2).map (·.size) = some c2.size)
    (hu3 : P.underlying t3 = some d3) (hd3 : (match d3 with | .struct _ | .array _ _ => true | _ => false) = true) (hi3 : (P.info? t3).map (·.size) = some c3.size) :
    (results fn tmps).run P w = .ok (.tuple #[.agg c1, .agg c2, .agg c3]) w := by
  have hp1' : tmps[p1]?.getD undef = .pointer (some ⟨g1, 0, none⟩) := by simpa using hp1
  have hp2' : tmps[p2]?.getD undef = .pointer (some ⟨g2, 0, none⟩) := by simpa using hp2
  have hp3' : tmps[p3]?.getD undef = .pointer (some ⟨g3, 0, none⟩) := by simpa using hp3
  simp [results, h, hp1', hp2', hp3', asAddr, run_loadVar_row w g1 u1 t1 c1 f1 d1 hg1 hu1 hd1 hi1, run_loadVar_row w g2 u2 t2 c2 f2 d2 hg2 hu2 hd2 hi2, run_loadVar_row w g3 u3 t3 c3 f3 d3 hg3 hu3 hd3 hi3]
theorem arr22 (xs : Array Value) (h : xs.size = 22) : ∃ x0 x1 x2 x3 x4 x5 x6 x7 x8 x9 x10 x11 x12 x13 x14 x15 x16 x17 x18 x19 x20 x21, xs = #[x0, x1, x2, x3, x4, x5, x6, x7, x8, x9, x10, x11, x12, x13, x14, x15, x16, x17, x18, x19, x20, x21] := by
  obtain ⟨l⟩ := xs
  match l, h with
  | x0 :: x1 :: x2 :: x3 :: x4 :: x5 :: x6 :: x7 :: x8 :: x9 :: x10 :: x11 :: x12 :: x13 :: x14 :: x15 :: x16 :: x17 :: x18 :: x19 :: x20 :: x21 :: [], _ => exact ⟨x0, x1, x2, x3, x4, x5, x6, x7, x8, x9, x10, x11, x12, x13, x14, x15, x16, x17, x18, x19, x20, x21, rfl⟩
def Ex4 (W : World) (g : Nat) : Prop := ∃ cs : Array Value, cs.size = 26 ∧ W.heap[g]? = some (.cells cs 28)
/-- what a step of made's last statement may do to the world: z the first block of the call, g the configuration's, C what lies there -/
structure LeM (z g : Nat) (C : Obj) (x y : World) : Prop where
  os : y.os = x.os
  tape : y.tape = x.tape
  output : y.output = x.output
  size : x.heap.size ≤ y.heap.size
  low : ∀ k, k < z → k < x.heap.size → y.heap[k]? = x.heap[k]?
  conf : x.heap[g]? = some C → y.heap[g]? = some C
  own : ∀ e sz v n xs, x.ownsRow (z + 1 + 1 + 1 + 1) e sz v n xs → y.ownsRow (z + 1 + 1 + 1 + 1) e sz v n xs
  c4 : x.heap[z]? = some C → y.heap[z]? = some C
  e4 : Ex4 x z → Ex4 y z
  r5 : IsR x (z + 1) → IsR y (z + 1)
  r6 : ReqW (z + 1 + 1 + 1 + 1) x (z + 1 + 1) → ReqW (z + 1 + 1 + 1 + 1) y (z + 1 + 1)
theorem leM_trans {z g : Nat} {C : Obj} : ∀ x y w : World, LeM z g C x y → LeM z g C y w → LeM z g C x w := fun x y w h k =>
  ⟨k.os.trans h.os, k.tape.trans h.tape, k.output.trans h.output, Nat.le_trans h.size k.size, fun i hi hx => (k.low i hi (Nat.lt_of_lt_of_le hx h.size)).trans (h.low i hi hx), fun q => k.conf (h.conf q),
   fun e sz v n xs q => k.own e sz v n xs (h.own e sz v n xs q), fun q => k.c4 (h.c4 q), fun q => k.e4 (h.e4 q), fun q => k.r5 (h.r5 q), fun q => k.r6 (h.r6 q)⟩
theorem reqW_below {B g : Nat} {x y : World} (h : ReqW B x g) (hb : Below x.heap.size x y) : ReqW B y g := by
  obtain ⟨m, t, n, vf, f, fr, vb, b, q1, q2, q3, q4⟩ := h
  exact ⟨m, t, n, vf, f, fr, vb, b, row_below q1 hb, q2, own_below q3 hb, own_below q4 hb⟩
theorem leM_of {z g : Nat} {C : Obj} : ∀ x y : World, Below x.heap.size x y → LeM z g C x y := fun x y h =>
  ⟨h.os, h.tape, h.output, h.size, fun k _ hk => h.block k hk, fun q => row_below q h, fun e sz v n xs q => own_below q h, fun q => row_below q h, fun ⟨cs, q1, q2⟩ => ⟨cs, q1, row_below q2 h⟩,
   fun ⟨a, b, c, p, q, r, hr⟩ => ⟨a, b, c, p, q, r, row_below hr h⟩, fun q => reqW_below q h⟩
theorem leM_put {z g q : Nat} {C : Obj} {x y : World} (hg : x.grownBy y (some q)) (h0 : z ≤ q) (h1 : q < z + 1 + 1 + 1 + 1) (hgq : z + 1 + 1 + 1 + 1 ≤ g)
    (h4 : q = z → y.heap[z]? = some C ∧ Ex4 y z) (h5 : q = z + 1 → IsR y (z + 1)) (h6 : q = z + 1 + 1 → ReqW (z + 1 + 1 + 1 + 1) y (z + 1 + 1)) : LeM z g C x y := by
  have hown : ∀ e sz v n xs, x.ownsRow (z + 1 + 1 + 1 + 1) e sz v n xs → y.ownsRow (z + 1 + 1 + 1 + 1) e sz v n xs := fun e sz v n xs k => own_src k hg h1
  refine ⟨hg.os, hg.tape, hg.output, hg.size, fun k hk hx => hg.block k hx (by simp; omega), fun k => grown_at hg k (by omega), hown, fun k => ?_, fun k => ?_, fun k => ?_, fun k => ?_⟩
  · by_cases e : q = z
    · exact (h4 e).1
    · exact grown_at hg k (by omega)
  · by_cases e : q = z
    · exact (h4 e).2
    · obtain ⟨cs, k1, k2⟩ := k; exact ⟨cs, k1, grown_at hg k2 (by omega)⟩
  · by_cases e : q = z + 1
    · exact h5 e
    · obtain ⟨a, b, c, p, qq, r, hr⟩ := k; exact ⟨a, b, c, p, qq, r, grown_at hg hr (by omega)⟩
  · by_cases e : q = z + 1 + 1
    · exact h6 e
    · obtain ⟨m, t, n, vf, f, fr, vb, b, q1, q2, q3, q4⟩ := k
      exact ⟨m, t, n, vf, f, fr, vb, b, grown_at hg q1 (by omega), q2, hown _ _ _ _ _ q3, hown _ _ _ _ _ q4⟩
theorem leM_below {w x y : World} {g : Nat} {C : Obj} (hb : Below w.heap.size w x) (h : LeM w.heap.size g C x y) : Below w.heap.size w y :=
  ⟨h.os.trans hb.os, h.tape.trans hb.tape, h.output.trans hb.output, Nat.le_trans hb.size h.size, fun k hk => (h.low k hk (Nat.lt_of_lt_of_le hk hb.size)).trans (hb.block k hk)⟩
/-- what the operations hand back -/
def spM (z g : Nat) (c : Cf) (vw vig vb : Value) (CA : Array Value) (i : Nat) (v : Value) (W : World) : Prop :=
  match i with
  | 0 => v = .agg CA
  | 1 => v = .pointer (some ⟨g, 16, none⟩)
  | 2 => v = c.P.agg vw
  | 3 => v = vb
  | 4 => ∃ x : List (Int × Int), W.ownsRow (z + 1 + 1 + 1 + 1) 84 2 v x.length (inpsV x)
  | 5 => ∃ q1 q2 q3 q4 q5 q6 : Int, v = .agg #[.int .i64 q1, .int .i64 q2, .int .i64 q3, .int .i64 q4, .int .i64 q5, .int .i64 q6]
  | 6 => v = .pointer (some ⟨z + 1 + 1 + 1, 0, none⟩)
  | 7 => ∃ m t n vf x fr vy b, v = .agg #[.string m, .string t, .int .i64 n, vf, .bool fr, vy] ∧ ReqP m t x ∧ OwnF (z + 1 + 1 + 1 + 1) W vf x ∧ OwnY (z + 1 + 1 + 1 + 1) W vy b
  | 8 => W.heap[z]? = some (.cells CA 28)
  | 9 => IsR W (z + 1)
  | 10 => ReqW (z + 1 + 1 + 1 + 1) W (z + 1 + 1)
  | _ => True
theorem spM_mono {z g : Nat} {c : Cf} {vw vig vb : Value} {CA : Array Value} : ∀ (i : Nat) (v : Value) (X Y : World), LeM z g (.cells CA 28) X Y → spM z g c vw vig vb CA i v X → spM z g c vw vig vb CA i v Y := by
  intro i v X Y hb h
  match i, h with
  | 0, h => exact h
  | 1, h => exact h
  | 2, h => exact h
  | 3, h => exact h
  | 4, ⟨x, h⟩ => exact ⟨x, hb.own _ _ _ _ _ h⟩
  | 5, h => exact h
  | 6, h => exact h
  | 7, ⟨m, t, n, vf, x, fr, vy, b, e, k1, k2, k3⟩ => exact ⟨m, t, n, vf, x, fr, vy, b, e, k1, hb.own _ _ _ _ _ k2, hb.own _ _ _ _ _ k3⟩
  | 8, h => exact hb.c4 h
  | 9, h => exact hb.r5 h
  | 10, h => exact hb.r6 h
  | i + 11, h => trivial
/-- where made stands ahead of its last statement -/
structure MdA (w W : World) (g : Nat) (c : Cf) (vw : Value) (CA : Array Value) (l : List Int) : Prop where
  e4 : Ex4 W w.heap.size
  r5 : IsR W (w.heap.size + 1)
  r6 : ReqW (w.heap.size + 1 + 1 + 1 + 1) W (w.heap.size + 1 + 1)
  conf : W.heap[g]? = some (.cells CA 28)
  own : W.ownsRow (w.heap.size + 1 + 1 + 1 + 1) 3 1 vw c.P.ws.length (intsV c.P.ws)
  in64 : ∀ x ∈ c.P.ws, In64 x
  src : Src W (w.heap.size + 1 + 1 + 1) l
  hb : Below w.heap.size w W
  lo : w.heap.size + 1 + 1 + 1 + 1 ≤ g
theorem made29_calls (va vb : Value) (l m : List Int) (w : World) (h1 : RdI w va l) (h2 : RdI w vb m) :
    Calls Tryz.prog 7 #[va, vb] w fun e w' => (∃ (c : Cf) (vw vig : Value) (q1 q2 q3 q4 q5 q6 : Int) (mm t : ByteArray) (n : Int) (vf : Value) (x : List Fld) (fr : Bool) (vy : Value) (b : List UInt8), e = .returned (.tuple #[.agg (c.cells vw vig).toArray, .agg #[.int .i64 q1, .int .i64 q2, .int .i64 q3, .int .i64 q4, .int .i64 q5, .int .i64 q6], .agg #[.string mm, .string t, .int .i64 n, vf, .bool fr, vy]]) ∧ RdI w' vw c.P.ws ∧ (c.salt.size ≤ 1 ∧ vig.oneCell' = true) ∧ ReqP mm t x ∧ RdF w' vf x ∧ RdB w' vy b) ∧ Below w.heap.size w w' := by
  obtain ⟨⟨a1, cap1, rfl, g1, g2, g3, hc⟩, hin⟩ := id h1
  have hs := fun (W : World) (hb : Below w.heap.size w W) => src_new W a1 l cap1 (hc.below hb) g1 g2 g3 hin
  have hs := Lib.hid hs
  clear hc hin
  go_enter Tryz.func7, Tryz.ntmps7
  have H4 := heap_four w (.cells #[.int .i64 0, .int .i64 0, .int .i64 0, .int .i64 0, .int .i64 0, .int .i64 0, .int .i64 0, .int .i64 0, .int .i64 0, .int .i64 0, .int .i64 0, .int .i64 0, .int .i64 0, .int .i64 0, .int .i64 0, .int .i64 0, .slice none 0 0, .int .i64 0, .int .i64 0, .int .i64 0, .int .i64 0, .int .i64 0, .string ⟨#[]⟩, .string ⟨#[]⟩, .bool false, .slice none 0 0] 28) (.cells #[.int .i64 0, .int .i64 0, .int .i64 0, .int .i64 0, .int .i64 0, .int .i64 0] 32) (.cells #[.string ⟨#[]⟩, .string ⟨#[]⟩, .int .i64 0, .slice none 0 0, .bool false, .slice none 0 0] 35) (.cells #[.slice a1 l.length cap1, .int .i64 0] 60)
  have HB3 := (box_two (w1 := w) (.cells #[.int .i64 0, .int .i64 0, .int .i64 0, .int .i64 0, .int .i64 0, .int .i64 0, .int .i64 0, .int .i64 0, .int .i64 0, .int .i64 0, .int .i64 0, .int .i64 0, .int .i64 0, .int .i64 0, .int .i64 0, .int .i64 0, .slice none 0 0, .int .i64 0, .int .i64 0, .int .i64 0, .int .i64 0, .int .i64 0, .string ⟨#[]⟩, .string ⟨#[]⟩, .bool false, .slice none 0 0] 28) (.cells #[.int .i64 0, .int .i64 0, .int .i64 0, .int .i64 0, .int .i64 0, .int .i64 0] 32)).alloc (by simp; omega) (.cells #[.string ⟨#[]⟩, .string ⟨#[]⟩, .int .i64 0, .slice none 0 0, .bool false, .slice none 0 0] 35)
  have HB4 := HB3.alloc (by simp; omega) (.cells #[.slice a1 l.length cap1, .int .i64 0] 60)
  have HS4 := hs.out _ HB3
  have hz3 : (((w.alloc (.cells #[.int .i64 0, .int .i64 0, .int .i64 0, .int .i64 0, .int .i64 0, .int .i64 0, .int .i64 0, .int .i64 0, .int .i64 0, .int .i64 0, .int .i64 0, .int .i64 0, .int .i64 0, .int .i64 0, .int .i64 0, .int .i64 0, .slice none 0 0, .int .i64 0, .int .i64 0, .int .i64 0, .int .i64 0, .int .i64 0, .string ⟨#[]⟩, .string ⟨#[]⟩, .bool false, .slice none 0 0] 28)).alloc (.cells #[.int .i64 0, .int .i64 0, .int .i64 0, .int .i64 0, .int .i64 0, .int .i64 0] 32)).alloc (.cells #[.string ⟨#[]⟩, .string ⟨#[]⟩, .int .i64 0, .slice none 0 0, .bool false, .slice none 0 0] 35)).heap.size = w.heap.size + 1 + 1 + 1 := by simp
  rw [hz3] at HS4
  have hz4 : ((((w.alloc (.cells #[.int .i64 0, .int .i64 0, .int .i64 0, .int .i64 0, .int .i64 0, .int .i64 0, .int .i64 0, .int .i64 0, .int .i64 0, .int .i64 0, .int .i64 0, .int .i64 0, .int .i64 0, .int .i64 0, .int .i64 0, .int .i64 0, .slice none 0 0, .int .i64 0, .int .i64 0, .int .i64 0, .int .i64 0, .int .i64 0, .string ⟨#[]⟩, .string ⟨#[]⟩, .bool false, .slice none 0 0] 28)).alloc (.cells #[.int .i64 0, .int .i64 0, .int .i64 0, .int .i64 0, .int .i64 0, .int .i64 0] 32)).alloc (.cells #[.string ⟨#[]⟩, .string ⟨#[]⟩, .int .i64 0, .slice none 0 0, .bool false, .slice none 0 0] 35)).alloc (.cells #[.slice a1 l.length cap1, .int .i64 0] 60)).heap.size = w.heap.size + 1 + 1 + 1 + 1 := by simp
  have HX := Lib.hid (And.intro H4 (And.intro HB4 (And.intro HS4 hz4)))
  clear H4 HB3 HB4 HS4 hz3 hz4 hs
  go_upto_region 2 with fail
  generalize ((((w.alloc (.cells #[.int .i64 0, .int .i64 0, .int .i64 0, .int .i64 0, .int .i64 0, .int .i64 0, .int .i64 0, .int .i64 0, .int .i64 0, .int .i64 0, .int .i64 0, .int .i64 0, .int .i64 0, .int .i64 0, .int .i64 0, .int .i64 0, .slice none 0 0, .int .i64 0, .int .i64 0, .int .i64 0, .int .i64 0, .int .i64 0, .string ⟨#[]⟩, .string ⟨#[]⟩, .bool false, .slice none 0 0] 28)).alloc (.cells #[.int .i64 0, .int .i64 0, .int .i64 0, .int .i64 0, .int .i64 0, .int .i64 0] 32)).alloc (.cells #[.string ⟨#[]⟩, .string ⟨#[]⟩, .int .i64 0, .slice none 0 0, .bool false, .slice none 0 0] 35)).alloc (.cells #[.slice a1 l.length cap1, .int .i64 0] 60)) = w4 at *
  obtain ⟨⟨k1, k2, k3, -⟩, HB4, HS4, hz4⟩ := HX.out
  have K1 := Lib.hid k1
  have K2 := Lib.hid k2
  have K3 := Lib.hid k3
  have HB4 := Lib.hid HB4
  have HZ4 := Lib.hid hz4
  clear HX k1 k2 k3 hz4
  go_wp2_with fail
  refine (sconf_calls (w.heap.size + 1 + 1 + 1) l _ HS4).mono ?_
  rintro e w5 ⟨⟨a0, a1', a2, a3, a4, a5, a6, a7, a8, a9, a10, a11, a12, a13, a14, a15, vw, P, salt, mir, vig, rfl, hrd, hown, hsalt, hvig⟩, hg, hs5⟩
  obtain ⟨av, cv, rfl, -, -, -⟩ := owned_slice hown
  have e1 := Lib.hid (grown_at hg K1.out (by omega))
  have e2 := Lib.hid (grown_at hg K2.out (by omega))
  have e3 := Lib.hid (grown_at hg K3.out (by omega))
  have hb5 := Lib.hid (below_src HB4.out hg (by omega))
  rw [HZ4.out] at hown
  have hown := Lib.hid hown
  have hin := Lib.hid hrd.2
  have hz5 := Lib.hid (show w.heap.size + 1 + 1 + 1 + 1 ≤ w5.heap.size by have := hg.size; have := HZ4.out; omega)
  clear hrd hg HB4 K1 K2 K3 HZ4 HS4
  have hfa := Lib.hid (cfFacts ⟨a0, a1', a2, a3, a4, a5, a6, a7, a8, a9, a10, a11, a12, a13, a14, a15, P, salt, mir⟩ (.slice av P.ws.length cv) vig rfl hvig)
  have hca : (Cf.cells ⟨a0, a1', a2, a3, a4, a5, a6, a7, a8, a9, a10, a11, a12, a13, a14, a15, P, salt, mir⟩ (.slice av P.ws.length cv) vig).toArray = #[.int .i64 a0, .int .i64 a1', .int .i64 a2, .int .i64 a3, .int .i64 a4, .int .i64 a5, .int .i64 a6, .int .i64 a7, .int .i64 a8, .int .i64 a9, .int .i64 a10, .int .i64 a11, .int .i64 a12, .int .i64 a13, .int .i64 a14, .int .i64 a15, .slice av P.ws.length cv, .int .i64 P.ms, .int .i64 P.num, .int .i64 P.den, .int .i64 P.hold, .int .i64 P.win, .string salt, .string ⟨#[99, 111, 104, 111, 114, 116]⟩, .bool mir, vig] := rfl
  rw [← hca]
  clear hca
  have hst := Lib.hid (show salt.size ≤ 1 ∧ vig.oneCell' = true from ⟨hsalt, hvig⟩)
  obtain ⟨C, hC⟩ : ∃ C : Cf, C = ⟨a0, a1', a2, a3, a4, a5, a6, a7, a8, a9, a10, a11, a12, a13, a14, a15, P, salt, mir⟩ := ⟨_, rfl⟩
  rw [← hC] at hfa ⊢
  have hCP : P = C.P := by rw [hC]
  have hCs : salt = C.salt := by rw [hC]
  rw [hCs] at hst
  subst hCP
  clear hC hCs hsalt hvig
  obtain ⟨CA, hCA⟩ : ∃ CA : Array Value, CA = (C.cells (.slice av C.P.ws.length cv) vig).toArray := ⟨_, rfl⟩
  have HCA := Lib.hid hCA
  rw [← hCA] at hfa ⊢
  clear hCA
  have hi26 := Lib.hid (show (Tryz.prog.info? 28).map (·.size) = some CA.size by rw [hfa.out.1]; kernel_rfl)
  have hnew := Lib.hid (heap_alloc_new w5 (.cells #[.int .i64 0, .int .i64 0, .int .i64 0, .int .i64 0, .int .i64 0, .int .i64 0, .int .i64 0, .int .i64 0, .int .i64 0, .int .i64 0, .int .i64 0, .int .i64 0, .int .i64 0, .int .i64 0, .int .i64 0, .int .i64 0, .slice none 0 0, .int .i64 0, .int .i64 0, .int .i64 0, .int .i64 0, .int .i64 0, .string ⟨#[]⟩, .string ⟨#[]⟩, .bool false, .slice none 0 0] 28))
  go_upto_region 3 with (refine wpList_store_row rfl 28 (.tmp 8) (.tmp 13) rfl w5.heap.size _ rfl rfl 28 _ hnew.out hi26.out hfa.out.1.symm hfa.out.2.1 ?_; rw [World.setRow_alloc_new]; simp only [Act.put])
  have hx6 := (Below.refl w5.heap.size w5).alloc (Nat.le_refl _) (.cells CA 28)
  have HA : MdA w (w5.alloc (.cells CA 28)) w5.heap.size C (.slice av C.P.ws.length cv) CA l :=
    ⟨⟨_, rfl, row_below e1.out hx6⟩, ⟨_, _, _, _, _, _, row_below e2.out hx6⟩, ⟨.empty, .empty, 0, .slice none 0 0, [], false, .slice none 0 0, [], row_below e3.out hx6, ⟨by decide, by decide, by simp, by simp⟩, World.ownsRow_nil _ _ _ _, World.ownsRow_nil _ _ _ _⟩,
     heap_alloc_new _ _, own_below hown.out hx6, hin.out, hs5.grown hx6, Below.self_trans hb5.out hx6, hz5.out⟩
  have HA := Lib.hid HA
  have h2 := Lib.hid h2
  clear e1 e2 e3 hx6 hown hin hs5 hb5 hz5 hnew
  generalize w5.heap.size = g at *
  generalize w5.alloc (.cells CA 28) = w6 at *
  have HLE0 := Lib.hid (leM_of (z := w.heap.size) (g := g) (C := .cells CA 28) w6 w6.drew ((Below.refl _ _).drew))
  have HLB := Lib.hid (fun W (hle : LeM w.heap.size g (.cells CA 28) w6.drew W) => leM_trans _ _ _ HLE0.out hle)
  have HBW := Lib.hid (fun W (hle : LeM w.heap.size g (.cells CA 28) w6.drew W) => leM_below HA.out.hb (HLB.out W hle))
  clear HLE0
  refine wp_region_specM_lit (LeS := fun x y => Below x.heap.size x y) (Le := LeM w.heap.size g (.cells CA 28)) (wr := fun i => decide (7 ≤ i)) (Sp := spM w.heap.size g C (.slice av C.P.ws.length cv) vig vb CA) rfl (by kernel_rfl) leM_trans spM_mono (fun x => Below.refl _ _) leM_of (fun x y z h1 h2 => Below.self_trans h1 h2) ⟨?_, ?_, ?_, ?_, ?_, ?_, ?_, ?_, ?_, ?_, ?_, trivial⟩ ?_
  · refine stepOkM_val rfl fun a w' hle hls hk hq hp => ⟨rfl, _, w', run_load_row _ rfl (kept_eval (s := 8) hk rfl) ((HLB.out w' hle).conf HA.out.conf) Tryz.underlying28 rfl hi26.out, Below.refl _ _, rfl⟩
  · refine stepOkM_val rfl fun a w' hle hls hk hq hp => ⟨rfl, _, w', ?_, Below.refl _ _, rfl⟩
    have g0 := ev (kept_eval (s := 8) hk rfl)
    simp at g0
    clear hp hk hq hle hls
    simp [execOp, go_sem, g0]
  · refine stepOkM_val rfl fun a w' hle hls hk hq hp => ⟨rfl, _, w', ?_, Below.refl _ _, rfl⟩
    have g0 := ev (show a.eval (.tmp 15) = _ from hp 1 _ rfl rfl)
    have hcf := (HLB.out w' hle).conf HA.out.conf
    have d0 := (cell_of_row w' g 16 _ _ _ hcf).trans hfa.out.2.2.1
    have d1 := (cell_of_row w' g 17 _ _ _ hcf).trans hfa.out.2.2.2.1
    have d2 := (cell_of_row w' g 18 _ _ _ hcf).trans hfa.out.2.2.2.2.1
    have d3 := (cell_of_row w' g 19 _ _ _ hcf).trans hfa.out.2.2.2.2.2.1
    have d4 := (cell_of_row w' g 20 _ _ _ hcf).trans hfa.out.2.2.2.2.2.2.1
    have d5 := (cell_of_row w' g 21 _ _ _ hcf).trans hfa.out.2.2.2.2.2.2.2
    clear hp hk hq hle hls hcf
    simp [execOp, go_sem, g0, d0, d1, d2, d3, d4, d5]
  · refine stepOkM_val rfl fun a w' hle hls hk hq hp => ⟨rfl, _, w', ?_, Below.refl _ _, rfl⟩
    have g0 := ev (kept_eval (s := 1) hk rfl)
    simp at g0
    clear hp hk hq hle hls
    simp [execOp, go_sem, g0]
  · refine stepOkM_call rfl fun a w' hle hls hk hq hp => ⟨rfl, _, _, ?_, (inputs_calls vb m w' (h2.out.below (HBW.out w' hle))).mono fun e w'' ⟨⟨va, x, he, hx⟩, hb⟩ => ⟨_, he, hb, ⟨x, hx.mono (by have := (HBW.out w' hle).size; have := HA.out.lo; have := hle.size; have := (Array.getElem?_eq_some_iff.1 ((HLB.out w' hle).conf HA.out.conf)).1; omega)⟩⟩⟩
    have g0 := ev (show a.eval (.tmp 17) = _ from hp 3 _ rfl rfl)
    clear hp hk hq hle hls
    simp [execOp, go_sem, g0]
  · refine stepOkM_call rfl fun a w' hle hls hk hq hp => ?_
    have g0 := ev (show a.eval (.tmp 16) = _ from hp 2 _ rfl rfl)
    obtain ⟨x, hx⟩ := (show ∃ x : List (Int × Int), w'.ownsRow (w.heap.size + 1 + 1 + 1 + 1) 84 2 (a.eval (.tmp 18)) x.length (inpsV x) from hp 4 _ rfl rfl)
    have hpl : PlV w' (C.P.agg (.slice av C.P.ws.length cv)) C.P := ⟨_, rfl, Rd_owned ((HLB.out w' hle).own _ _ _ _ _ HA.out.own), HA.out.in64⟩
    refine ⟨rfl, _, _, ?_, (run_calls C.P _ _ x w' hpl (Rd_owned hx)).mono fun e w'' ⟨⟨q1, q2, q3, q4, q5, q6, he⟩, hb⟩ => ⟨_, he, hb, ⟨q1, q2, q3, q4, q5, q6, rfl⟩⟩⟩
    clear hp hk hq hle hls hx hpl
    simp [execOp, go_sem, g0]
  · refine stepOkM_val rfl fun a w' hle hls hk hq hp => ⟨rfl, _, w', ?_, Below.refl _ _, rfl⟩
    have g0 := ev (kept_eval (s := 7) hk rfl)
    simp at g0
    clear hp hk hq hle hls
    simp [execOp, go_sem, g0]
  · refine stepOkM_callW rfl fun a w' hle hls hk hq hp => ?_
    have g0 := ev (show a.eval (.tmp 20) = _ from hp 6 _ rfl rfl)
    have hsr := HA.out.src.grown (of_drewR (hls (by kernel_rfl)))
    refine ⟨rfl, _, _, ?_, (request_calls _ l w' hsr).mono fun e w'' ⟨⟨mm, t, n, vf, x, fr, vy, b, he, hmr, ho1, ho2⟩, hg, hs'⟩ => ⟨_, he, leM_put hg (by omega) (by omega) HA.out.lo (by omega) (by omega) (by omega), ⟨mm, t, n, vf, x, fr, vy, b, rfl, reqP_of hmr, ho1.mono ?_, ho2.mono ?_⟩⟩⟩
    · clear hp hk hq hle hls hsr
      simp [execOp, go_sem, g0]
    · have := HA.out.lo; have := (Array.getElem?_eq_some_iff.1 ((HLB.out w' hle).conf HA.out.conf)).1; omega
    · have := HA.out.lo; have := (Array.getElem?_eq_some_iff.1 ((HLB.out w' hle).conf HA.out.conf)).1; omega
  · refine stepOkM_doW rfl fun a w' hle hls hk hq hp => ?_
    obtain ⟨cs, hcs, hrow⟩ := (HLB.out w' hle).e4 HA.out.e4
    refine ⟨rfl, w'.setRow w.heap.size CA, run_store_row rfl (kept_eval (s := 4) hk rfl) (show a.eval (.tmp 14) = .agg CA from hp 0 _ rfl rfl) hrow hi26.out (hcs.trans hfa.out.1.symm) hfa.out.2.1, leM_put (grown_setRow _ _ _) (by omega) (by omega) HA.out.lo (fun _ => ⟨setRow_heap _ _ _ _ _ _ hrow, ⟨_, hfa.out.1, setRow_heap _ _ _ _ _ _ hrow⟩⟩) (by omega) (by omega), setRow_heap _ _ _ _ _ _ hrow⟩
  · refine stepOkM_doW rfl fun a w' hle hls hk hq hp => ?_
    obtain ⟨q1, q2, q3, q4, q5, q6, hv⟩ := (show ∃ q1 q2 q3 q4 q5 q6 : Int, a.eval (.tmp 19) = .agg #[.int .i64 q1, .int .i64 q2, .int .i64 q3, .int .i64 q4, .int .i64 q5, .int .i64 q6] from hp 5 _ rfl rfl)
    obtain ⟨b1, b2, b3, b4, b5, b6, hrow⟩ := (HLB.out w' hle).r5 HA.out.r5
    refine ⟨rfl, w'.setRow (w.heap.size + 1) _, run_store_row rfl (kept_eval (s := 5) hk rfl) hv hrow (by kernel_rfl) rfl (by kernel_rfl), leM_put (grown_setRow _ _ _) (by omega) (by omega) HA.out.lo (by omega) (fun _ => ⟨q1, q2, q3, q4, q5, q6, setRow_heap _ _ _ _ _ _ hrow⟩) (by omega), ⟨q1, q2, q3, q4, q5, q6, setRow_heap _ _ _ _ _ _ hrow⟩⟩
  · refine stepOkM_doW rfl fun a w' hle hls hk hq hp => ?_
    obtain ⟨mm, t, n, vf, x, fr, vy, b, hv, j1, j2, j3⟩ := (show ∃ mm t n vf x fr vy b, a.eval (.tmp 21) = .agg #[.string mm, .string t, .int .i64 n, vf, .bool fr, vy] ∧ ReqP mm t x ∧ OwnF (w.heap.size + 1 + 1 + 1 + 1) w' vf x ∧ OwnY (w.heap.size + 1 + 1 + 1 + 1) w' vy b from hp 7 _ rfl rfl)
    obtain ⟨m', t', n', vf', f', fr', vb', b', hrow, -, -, -⟩ := (HLB.out w' hle).r6 HA.out.r6
    obtain ⟨af, cf, rfl, -, -, -⟩ := owned_slice j2
    obtain ⟨ay, cy, rfl, -, -, -⟩ := owned_slice j3
    have hgr := grown_setRow w' (w.heap.size + 1 + 1) #[.string mm, .string t, .int .i64 n, .slice af x.length cf, .bool fr, .slice ay b.length cy]
    have hrq : ReqW (w.heap.size + 1 + 1 + 1 + 1) (w'.setRow (w.heap.size + 1 + 1) #[.string mm, .string t, .int .i64 n, .slice af x.length cf, .bool fr, .slice ay b.length cy]) (w.heap.size + 1 + 1) :=
      ⟨mm, t, n, _, x, fr, _, b, setRow_heap _ _ _ _ _ _ hrow, j1, own_src j2 hgr (by omega), own_src j3 hgr (by omega)⟩
    refine ⟨rfl, w'.setRow (w.heap.size + 1 + 1) _, run_store_row rfl (kept_eval (s := 6) hk rfl) hv hrow (by kernel_rfl) rfl (by kernel_rfl), leM_put hgr (by omega) (by omega) HA.out.lo (by omega) (by omega) (fun _ => hrq), hrq⟩
  · intro a w' hle hk hp
    obtain ⟨tm, df⟩ := a
    obtain ⟨x0, x1, x2, x3, x4, x5, x6, x7, x8, x9, x10, x11, x12, x13, x14, x15, x16, x17, x18, x19, x20, x21, rfl⟩ := arr22 tm hk.2.1
    have q4 : x4 = .pointer (some ⟨w.heap.size, 0, none⟩) := hk.2.2 4 rfl
    have q5 : x5 = .pointer (some ⟨w.heap.size + 1, 0, none⟩) := hk.2.2 5 rfl
    have q6 : x6 = .pointer (some ⟨w.heap.size + 1 + 1, 0, none⟩) := hk.2.2 6 rfl
    have qd : df = [] := hk.1
    have r4 := Lib.hid (show w'.heap[w.heap.size]? = some (.cells CA 28) from hp 8 _ rfl)
    have r5 := Lib.hid (show IsR w' (w.heap.size + 1) from hp 9 _ rfl)
    have r6 := Lib.hid (show ReqW (w.heap.size + 1 + 1 + 1 + 1) w' (w.heap.size + 1 + 1) from hp 10 _ rfl)
    have HB := Lib.hid (HBW.out w' hle)
    have HO := Lib.hid ((HLB.out w' hle).own _ _ _ _ _ HA.out.own)
    have HI := Lib.hid HA.out.in64
    clear hp hle hk HBW HLB HA h2 h1
    subst q4 q5 q6 qd
    simp only [Exit.then]
    apply_assumption
    go_wp2
    obtain ⟨b1, b2, b3, b4, b5, b6, hr5⟩ := r5.out
    obtain ⟨mm, t, n, vf, x, fr, vy, b, hr6, j1, j2, j3⟩ := r6.out
    refine bodyPost_ret (results_cell3 Tryz.results7 _ w' _ _ _ rfl rfl rfl r4.out hr5 hr6 Tryz.underlying28 rfl hi26.out Tryz.underlying32 rfl (by kernel_rfl) Tryz.underlying35 rfl (by kernel_rfl)) rfl ⟨?_, HB.out⟩
    exact ⟨C, _, vig, _, _, _, _, _, _, _, _, _, _, _, _, _, _, by rw [HCA.out], ⟨Rd_owned HO.out, HI.out⟩, hst.out, j1, j2.rd, j3.rd⟩
end Go.Proofs.YtfmokccoilgpmaaGreatDoor
