/- How a request and a reply that come in by value are opened. -/
import Derived.Test.YtglljdhhgmgbgaaGreatDoorOpenF
namespace Go.Proofs.YtglljdhhgmgbgaaGreatDoor
open Go.ChangeShapes Go.WideShapes Go.ChangeAt Go.RowKit Go.Own Go.Joins Go.Deep
set_option linter.unusedVariables false

section
variable {H : Type} {enc : TypeId × Value → H} {P : Program}

/-- a struct whose fields take one cell each: its cells, with the reading of each field -/
theorem open_cells {t : TypeId} {fs : Array Field} {W : World} {r : Reach} {b0 : Nat} {v : Value} {d : DataW H} {ps : List MemPlace} (hs : P.underlying t = some (.struct fs)) (hone : oneCellFields P fs = true) (hC : P.cellsOf t = fs.size)
    (hval : Value.okWide P W r b0 t v) (hd : DataW.Trod enc P W 0 (fun _ => true) true t v d ps) :
    ∃ (cs : Array Value) (ys : List (DataW H × List MemPlace)) (n : Nat), v = .agg cs ∧ cs.size = fs.size ∧ ys.length = fs.size ∧ d = .agg (ys.map (·.1)) ∧
      ∀ (j : Nat) (f : Field), fs[j]? = some f → ∃ c y, cs[j]? = some c ∧ ys[j]? = some y ∧ DataW.trod enc P W 0 (fun _ => true) true n f.type [c] = some y := by
  obtain ⟨cs, rfl, hsz⟩ := okWide_struct hs hval
  obtain ⟨fuel, hf⟩ := hd
  obtain ⟨ys, n, -, hx, hl, hlen, hg⟩ := DataW.trod_struct hs hf
  simp only [Prod.mk.injEq] at hx
  refine ⟨cs, ys, n, rfl, hsz.trans hC, hlen, hx.1, fun j f hj => ?_⟩
  obtain ⟨ho, hk⟩ := hone_of hone j f hj
  have hjl : j < fs.size := (Array.getElem?_eq_some_iff.1 hj).1
  have hjc : j < cs.size := by omega
  have h1 := hg j f hj
  rw [ho, hk] at h1
  have e : ((Value.agg cs).cells.toList.drop j).take 1 = [cs[j]] := by
    have : (Value.agg cs).cells = cs := rfl
    rw [this, List.drop_eq_getElem_cons (by simpa using hjc)]
    simp
  rw [e] at h1
  refine ⟨cs[j], ys[j], by simp [hjc], List.getElem?_eq_getElem (by omega), ?_⟩
  rw [h1, List.getElem?_eq_getElem (by omega)]

theorem lit_string {t : TypeId} {W : World} {n : Nat} {c : Value} {y : DataW H × List MemPlace} (ht : P.underlying t = some .string) (h : DataW.trod enc P W 0 (fun _ => true) true n t [c] = some y) : ∃ s : ByteArray, c = .string s ∧ s.size + 1 ≤ Rows.uptoBulk y.1 ∧ s.size ≤ maxLen := by
  obtain ⟨x, hx, rfl, hz⟩ := DataW.trod_string ht h
  have e : c = .string x := by simpa using hx
  exact ⟨x, e, by rw [size_toList]; simp only [Rows.uptoBulk]; omega, hz⟩
theorem lit_int {t : TypeId} {W : World} {n : Nat} {c : Value} {y : DataW H × List MemPlace} (ht : P.underlying t = some (.int .i64)) (h : DataW.trod enc P W 0 (fun _ => true) true n t [c] = some y) : ∃ k : Int, c = .int .i64 k ∧ In64 k := by
  obtain ⟨x, hx, hy, hw⟩ := DataW.trod_int ht h
  have e : c = .int .i64 x := by simpa using hx
  exact ⟨x, e, in64_of hw⟩
theorem lit_bool {t : TypeId} {W : World} {n : Nat} {c : Value} {y : DataW H × List MemPlace} (ht : P.underlying t = some .bool) (h : DataW.trod enc P W 0 (fun _ => true) true n t [c] = some y) : ∃ k : Bool, c = .bool k := by
  obtain ⟨x, hx, hy⟩ := DataW.trod_bool ht h
  exact ⟨x, by simpa using hx⟩

theorem open_request {t e3 : TypeId} {f0 f1 f2 f3 f4 f5 g0 g1 : Field} {e5 : TypeId} {W : World} {r : Reach} {b0 : Nat} {v : Value} {d : DataW H} {ps : List MemPlace} (hs : P.underlying t = some (.struct #[f0, f1, f2, f3, f4, f5])) (hone : oneCellFields P #[f0, f1, f2, f3, f4, f5] = true) (hC : P.cellsOf t = 6)
    (s0 : P.underlying f0.type = some .string) (s1 : P.underlying f1.type = some .string) (s2 : P.underlying f2.type = some (.int .i64)) (s3 : P.underlying f3.type = some (.slice e3)) (s4 : P.underlying f4.type = some .bool) (s5 : P.underlying f5.type = some (.slice e5))
    (k3 : P.underlying e3 = some (.struct #[g0, g1])) (ce : P.cellsOf e3 = 2) (o0 : g0.offset = 0) (o1 : g1.offset = 1) (c0 : P.cellsOf g0.type = 1) (c1 : P.cellsOf g1.type = 1) (q0 : P.underlying g0.type = some .string) (q1 : P.underlying g1.type = some .string)
    (k5 : P.underlying e5 = some (.int .u8)) (c5 : P.cellsOf e5 = 1)
    (hval : Value.okWide P W r b0 t v) (hd : DataW.Trod enc P W 0 (fun _ => true) true t v d ps) :
    ∃ (m tg : ByteArray) (n : Int) (vf : Value) (x : List Fld) (fr : Bool) (vb : Value) (b : List UInt8), v = .agg #[.string m, .string tg, .int .i64 n, vf, .bool fr, vb] ∧ RdF W vf x ∧ RdB W vb b ∧ In64 n ∧
      m.size + tg.size + (x.map fun f => f.name.size + f.val.size + 2).sum + b.length + 4 ≤ Rows.uptoBulk d := by
  obtain ⟨cs, ys, n, rfl, hcs, hys, rfl, hall⟩ := open_cells hs hone hC hval hd
  obtain ⟨v0, y0, g0, h0, t0⟩ := hall 0 f0 rfl
  obtain ⟨v1, y1, g1, h1, t1⟩ := hall 1 f1 rfl
  obtain ⟨v2, y2, g2, h2, t2⟩ := hall 2 f2 rfl
  obtain ⟨v3, y3, g3, h3, t3⟩ := hall 3 f3 rfl
  obtain ⟨v4, y4, g4, h4, t4⟩ := hall 4 f4 rfl
  obtain ⟨v5, y5, g5, h5, t5⟩ := hall 5 f5 rfl
  have ey : ys = [y0, y1, y2, y3, y4, y5] := by
    match ys, hys, h0, h1, h2, h3, h4, h5 with
    | [a0, a1, a2, a3, a4, a5], _, h0, h1, h2, h3, h4, h5 => simp at h0 h1 h2 h3 h4 h5; subst h0 h1 h2 h3 h4 h5; rfl
  have ec : cs = #[v0, v1, v2, v3, v4, v5] := by
    obtain ⟨l⟩ := cs
    match l, hcs, g0, g1, g2, g3, g4, g5 with
    | [a0, a1, a2, a3, a4, a5], _, g0, g1, g2, g3, g4, g5 => simp at g0 g1 g2 g3 g4 g5; subst g0 g1 g2 g3 g4 g5; rfl
  subst ey ec
  obtain ⟨m, rfl, b0, -⟩ := lit_string s0 t0
  obtain ⟨tg, rfl, b1, -⟩ := lit_string s1 t1
  obtain ⟨k, rfl, hk⟩ := lit_int s2 t2
  obtain ⟨a3, l3, p3, hv3⟩ := slice_form s3 t3
  obtain rfl : v3 = .slice a3 l3 p3 := by simpa using hv3
  obtain ⟨fr, rfl⟩ := lit_bool s4 t4
  obtain ⟨a5, l5, p5, hv5⟩ := slice_form s5 t5
  obtain rfl : v5 = .slice a5 l5 p5 := by simpa using hv5
  obtain ⟨x, hx, b3, -⟩ := open_fields' s3 k3 ce o0 o1 c0 c1 q0 q1 ⟨_, _, _, rfl⟩ (show DataW.Trod enc P W 0 (fun _ => true) true f3.type (.slice a3 l3 p3) y3.1 y3.2 from ⟨n, t3⟩)
  obtain ⟨b, hb, b5⟩ := open_bytes' s5 k5 c5 ⟨_, _, _, rfl⟩ (show DataW.Trod enc P W 0 (fun _ => true) true f5.type (.slice a5 l5 p5) y5.1 y5.2 from ⟨n, t5⟩)
  refine ⟨m, tg, k, _, x, fr, _, b, rfl, hx, hb, hk, ?_⟩
  simp only [List.map_cons, List.map_nil, Rows.uptoBulk, Rows.uptoBulkAll]
  omega

theorem open_reply {t e3 : TypeId} {f0 f1 f2 f3 f4 g0 g1 : Field} {e5 : TypeId} {W : World} {r : Reach} {b0 : Nat} {v : Value} {d : DataW H} {ps : List MemPlace} (hs : P.underlying t = some (.struct #[f0, f1, f2, f3, f4])) (hone : oneCellFields P #[f0, f1, f2, f3, f4] = true) (hC : P.cellsOf t = 5)
    (s0 : P.underlying f0.type = some (.int .i64)) (s1 : P.underlying f1.type = some .string) (s2 : P.underlying f2.type = some (.int .i64)) (s3 : P.underlying f3.type = some (.slice e3)) (s4 : P.underlying f4.type = some (.slice e5))
    (k3 : P.underlying e3 = some (.struct #[g0, g1])) (ce : P.cellsOf e3 = 2) (o0 : g0.offset = 0) (o1 : g1.offset = 1) (c0 : P.cellsOf g0.type = 1) (c1 : P.cellsOf g1.type = 1) (q0 : P.underlying g0.type = some .string) (q1 : P.underlying g1.type = some .string)
    (k5 : P.underlying e5 = some (.int .u8)) (c5 : P.cellsOf e5 = 1)
    (hval : Value.okWide P W r b0 t v) (hd : DataW.Trod enc P W 0 (fun _ => true) true t v d ps) :
    ∃ (st : Int) (rs : ByteArray) (n : Int) (vf : Value) (x : List Fld) (vb : Value) (b : List UInt8), v = .agg #[.int .i64 st, .string rs, .int .i64 n, vf, vb] ∧ RdF W vf x ∧ RdB W vb b ∧ In64 st ∧ In64 n ∧
      rs.size + (x.map fun f => f.name.size + f.val.size + 2).sum + b.length + 3 ≤ Rows.uptoBulk d := by
  obtain ⟨cs, ys, n, rfl, hcs, hys, rfl, hall⟩ := open_cells hs hone hC hval hd
  obtain ⟨v0, y0, g0, h0, t0⟩ := hall 0 f0 rfl
  obtain ⟨v1, y1, g1, h1, t1⟩ := hall 1 f1 rfl
  obtain ⟨v2, y2, g2, h2, t2⟩ := hall 2 f2 rfl
  obtain ⟨v3, y3, g3, h3, t3⟩ := hall 3 f3 rfl
  obtain ⟨v4, y4, g4, h4, t4⟩ := hall 4 f4 rfl
  have ey : ys = [y0, y1, y2, y3, y4] := by
    match ys, hys, h0, h1, h2, h3, h4 with
    | [a0, a1, a2, a3, a4], _, h0, h1, h2, h3, h4 => simp at h0 h1 h2 h3 h4; subst h0 h1 h2 h3 h4; rfl
  have ec : cs = #[v0, v1, v2, v3, v4] := by
    obtain ⟨l⟩ := cs
    match l, hcs, g0, g1, g2, g3, g4 with
    | [a0, a1, a2, a3, a4], _, g0, g1, g2, g3, g4 => simp at g0 g1 g2 g3 g4; subst g0 g1 g2 g3 g4; rfl
  subst ey ec
  obtain ⟨st, rfl, hst⟩ := lit_int s0 t0
  obtain ⟨m, rfl, b1, -⟩ := lit_string s1 t1
  obtain ⟨k, rfl, hk⟩ := lit_int s2 t2
  obtain ⟨a3, l3, p3, hv3⟩ := slice_form s3 t3
  obtain rfl : v3 = .slice a3 l3 p3 := by simpa using hv3
  obtain ⟨a5, l5, p5, hv5⟩ := slice_form s4 t4
  obtain rfl : v4 = .slice a5 l5 p5 := by simpa using hv5
  obtain ⟨x, hx, b3, -⟩ := open_fields' s3 k3 ce o0 o1 c0 c1 q0 q1 ⟨_, _, _, rfl⟩ (show DataW.Trod enc P W 0 (fun _ => true) true f3.type (.slice a3 l3 p3) y3.1 y3.2 from ⟨n, t3⟩)
  obtain ⟨b, hb, b5⟩ := open_bytes' s4 k5 c5 ⟨_, _, _, rfl⟩ (show DataW.Trod enc P W 0 (fun _ => true) true f4.type (.slice a5 l5 p5) y4.1 y4.2 from ⟨n, t4⟩)
  refine ⟨st, m, k, _, x, _, b, rfl, hx, hb, hst, hk, ?_⟩
  simp only [List.map_cons, List.map_nil, Rows.uptoBulk, Rows.uptoBulkAll]
  omega
end
end Go.Proofs.YtglljdhhgmgbgaaGreatDoor
