/- The core of RouteSticky. The core of RouteSticky: its walk. -/
import Derived.Test.YtfmokccoilgpmaaGreatDoorNc29
/-! The core of RouteSticky. -/
namespace Go.Proofs.YtfmokccoilgpmaaGreatDoor
open Go.RowKit Go.Own
set_option linter.unusedVariables false
set_option linter.unusedSimpArgs false
set_option maxHeartbeats 4000000
set_option maxRecDepth 100000

/-! ### the plain law: the cookie is found -/
def coP : ByteArray := ⟨#[99, 111, 104, 111, 114, 116, 61]⟩
def hoN : ByteArray := ⟨#[72, 111, 115, 116]⟩
def xN : ByteArray := ⟨#[88]⟩
theorem pairF_cohort (x : ByteArray) (h : (bl x).all hexc = true) : pairF (coP ++ x) = some ⟨nameCohort, x⟩ := by
  have e : coP ++ x = bs (99 :: [111, 104, 111, 114, 116] ++ 61 :: bl x) := by
    apply bl_inj
    rw [bl_append, bl_bs]
    simp [bl, coP]
  rw [e]
  have := pairF_named (c := 99) (n := [111, 104, 111, 114, 116]) (s := bl x) (by decide +kernel) (by decide +kernel) (by decide +kernel)
  rw [trimR_hex h, bs_bl] at this
  exact this
theorem find_cohort (x : ByteArray) (h : (bl x).all hexc = true) : findP (pairsS [coP ++ x]) nameCohort = some ⟨nameCohort, x⟩ := by
  have e : coP ++ x = bs (99 :: 111 :: 104 :: 111 :: 114 :: 116 :: 61 :: bl x) := by
    apply bl_inj
    rw [bl_append, bl_bs]
    simp [bl, coP]
  have n1 : hasB (99 :: 111 :: 104 :: 111 :: 114 :: 116 :: 61 :: bl x) 59 = false := by
    have := hex_no h (d := 59) (by decide +kernel)
    simp only [hasB, List.any_cons] at this ⊢
    rw [this]; decide
  have hp := pairF_cohort x h
  unfold pairsS
  rw [e] at hp ⊢
  rw [List.flatMap_cons, List.flatMap_nil, List.append_nil, splitS_last n1, pairsP_cons_some hp, findP_cons_yes (seq_self _)]
theorem find_st1 (x m : ByteArray) (h : (bl x).all hexc = true) : findP (pairsS (valuesS [⟨cookieS, coP ++ x⟩, ⟨hoN, m⟩] cookieS)) nameCohort = some ⟨nameCohort, x⟩ := by
  have e : valuesS [⟨cookieS, coP ++ x⟩, ⟨hoN, m⟩] cookieS = [coP ++ x] := by
    have y1 : foldB cookieS cookieS = true := by decide +kernel
    have y2 : foldB hoN cookieS = false := by decide +kernel
    simp [valuesS, y1, y2]
  rw [e]; exact find_cohort x h
theorem find_st2 (x t : ByteArray) (h : (bl x).all hexc = true) : findP (pairsS (valuesS [⟨xN, t⟩, ⟨cookieS, coP ++ x⟩] cookieS)) nameCohort = some ⟨nameCohort, x⟩ := by
  have e : valuesS [⟨xN, t⟩, ⟨cookieS, coP ++ x⟩] cookieS = [coP ++ x] := by
    have y1 : foldB cookieS cookieS = true := by decide +kernel
    have y2 : foldB xN cookieS = false := by decide +kernel
    simp [valuesS, y1, y2]
  rw [e]; exact find_cohort x h
theorem route_found (salt id n nid : ByteArray) (wt : Int) (h : idB id = true) : routeV salt wt (some ⟨n, id⟩) nid = .agg #[.int .i64 (classI salt id wt), .string id, .bool false] := by
  unfold routeV chosenI newI
  simp [h]
theorem classI_if (salt id : ByteArray) (wt : Int) : classI salt id wt = if bucketI salt id < wt then 5 else 4 := by
  obtain ⟨h1, h2⟩ := bucketI_bd salt id
  unfold classI canB
  rw [decide_eq_true h1, Bool.true_and]
  by_cases h : bucketI salt id < wt <;> simp [h]

/-! ### the memory: two requests whose fields are set -/
def Rq1 (p : Nat) (mm : ByteArray) (W : World) : Prop := ∃ t n v fr vy, W.heap[p]? = some (reqO mm t n v fr vy)
def Rq2 (q : Nat) (tt : ByteArray) (W : World) : Prop := ∃ m n v fr vy, W.heap[q]? = some (reqO m tt n v fr vy)
def Dn1 (B p : Nat) (mm : ByteArray) (l : List Fld) (W : World) : Prop := ∃ t n v fr vy, W.heap[p]? = some (reqO mm t n v fr vy) ∧ OwnF B W v l
def Dn2 (B q : Nat) (tt : ByteArray) (l : List Fld) (W : World) : Prop := ∃ m n v fr vy, W.heap[q]? = some (reqO m tt n v fr vy) ∧ OwnF B W v l
/-- what a step of the statement that sets both requests' fields may do -/
structure Le5 (B p q : Nat) (mm tt : ByteArray) (l1 l2 : List Fld) (x y : World) : Prop where
  os : y.os = x.os
  tape : y.tape = x.tape
  output : y.output = x.output
  size : x.heap.size ≤ y.heap.size
  keep : ∀ k, k < x.heap.size → k ≠ p → k ≠ q → y.heap[k]? = x.heap[k]?
  r1 : Rq1 p mm x → Rq1 p mm y
  r2 : Rq2 q tt x → Rq2 q tt y
  d1 : Dn1 B p mm l1 x → Dn1 B p mm l1 y
  d2 : Dn2 B q tt l2 x → Dn2 B q tt l2 y
theorem le5_trans {B p q : Nat} {mm tt : ByteArray} {l1 l2 : List Fld} : ∀ x y w : World, Le5 B p q mm tt l1 l2 x y → Le5 B p q mm tt l1 l2 y w → Le5 B p q mm tt l1 l2 x w := fun x y w h k =>
  ⟨k.os.trans h.os, k.tape.trans h.tape, k.output.trans h.output, Nat.le_trans h.size k.size, fun i hi n1 n2 => (k.keep i (Nat.lt_of_lt_of_le hi h.size) n1 n2).trans (h.keep i hi n1 n2), fun q => k.r1 (h.r1 q), fun q => k.r2 (h.r2 q), fun q => k.d1 (h.d1 q), fun q => k.d2 (h.d2 q)⟩
theorem le5_of {B p q : Nat} {mm tt : ByteArray} {l1 l2 : List Fld} : ∀ x y : World, Below x.heap.size x y → Le5 B p q mm tt l1 l2 x y := fun x y h =>
  ⟨h.os, h.tape, h.output, h.size, fun k hk _ _ => h.block k hk, fun ⟨t, n, v, fr, vy, e⟩ => ⟨t, n, v, fr, vy, row_below e h⟩, fun ⟨t, n, v, fr, vy, e⟩ => ⟨t, n, v, fr, vy, row_below e h⟩,
   fun ⟨t, n, v, fr, vy, e, o⟩ => ⟨t, n, v, fr, vy, row_below e h, own_below o h⟩, fun ⟨t, n, v, fr, vy, e, o⟩ => ⟨t, n, v, fr, vy, row_below e h, own_below o h⟩⟩
theorem own_le5 {B p q : Nat} {mm tt : ByteArray} {l1 l2 l : List Fld} {x y : World} {v : Value} (h : Le5 B p q mm tt l1 l2 x y) (hp : p < B) (hq : q < B) (ho : OwnF B x v l) : OwnF B y v l := by
  refine ⟨ho.1, ho.2.imp id ?_⟩
  rintro ⟨g, cap, cur, e, hb, hg, hr⟩
  exact ⟨g, cap, cur, e, hb, (h.keep g (Array.getElem?_eq_some_iff.1 hg).1 (by omega) (by omega)).trans hg, hr⟩
theorem le5_put1 {B p q : Nat} {mm tt : ByteArray} {l1 l2 : List Fld} {x y : World} (hg : x.grownBy y (some p)) (hp : p < B) (hpq : q ≠ p) (hd : Dn1 B p mm l1 y) : Le5 B p q mm tt l1 l2 x y :=
  ⟨hg.os, hg.tape, hg.output, hg.size, fun k hk n1 _ => hg.block k hk (by simp; omega), fun _ => by obtain ⟨t, n, v, fr, vy, e, -⟩ := hd; exact ⟨t, n, v, fr, vy, e⟩, fun ⟨t, n, v, fr, vy, e⟩ => ⟨t, n, v, fr, vy, grown_at hg e hpq⟩,
   fun _ => hd, fun ⟨t, n, v, fr, vy, e, o⟩ => ⟨t, n, v, fr, vy, grown_at hg e hpq, own_src o hg hp⟩⟩
theorem le5_put2 {B p q : Nat} {mm tt : ByteArray} {l1 l2 : List Fld} {x y : World} (hg : x.grownBy y (some q)) (hq : q < B) (hpq : p ≠ q) (hd : Dn2 B q tt l2 y) : Le5 B p q mm tt l1 l2 x y :=
  ⟨hg.os, hg.tape, hg.output, hg.size, fun k hk _ n1 => hg.block k hk (by simp; omega), fun ⟨t, n, v, fr, vy, e⟩ => ⟨t, n, v, fr, vy, grown_at hg e hpq⟩, fun _ => by obtain ⟨t, n, v, fr, vy, e, -⟩ := hd; exact ⟨t, n, v, fr, vy, e⟩,
   fun ⟨t, n, v, fr, vy, e, o⟩ => ⟨t, n, v, fr, vy, grown_at hg e hpq, own_src o hg hq⟩, fun _ => hd⟩
theorem le5_below {w x y : World} {B p q : Nat} {mm tt : ByteArray} {l1 l2 : List Fld} (hb : Below w.heap.size w x) (hp : w.heap.size ≤ p) (hq : w.heap.size ≤ q) (h : Le5 B p q mm tt l1 l2 x y) : Below w.heap.size w y :=
  ⟨h.os.trans hb.os, h.tape.trans hb.tape, h.output.trans hb.output, Nat.le_trans hb.size h.size, fun k hk => (h.keep k (Nat.lt_of_lt_of_le hk hb.size) (by omega) (by omega)).trans (hb.block k hk)⟩

def fldO (a b : ByteArray) : Obj := .cells #[.string a, .string b] 45
/-- append of one field to one field, both just laid: a new row -/
theorem run_append_two (W : World) (B g1 g2 : Nat) (a b c d : ByteArray) (ty : TypeId) (hB : B ≤ g1) (h1 : W.heap[g1]? = some (fldO a b)) (h2 : W.heap[g2]? = some (fldO c d)) :
    ∃ v' w', (Builtin.append_ #[23, 23] ty #[.slice (some ⟨g1, 0, none⟩) 1 1, .slice (some ⟨g2, 0, none⟩) 1 1]).run Tryz.prog W = .ok v' w' ∧ Below W.heap.size W w' ∧ OwnF B w' v' [⟨a, b⟩, ⟨c, d⟩] := by
  have hi0 : (Tryz.prog.info? 45).map (fun i => (i.zero, i.size, i.bytes)) = some (some (.agg #[.string ⟨#[]⟩, .string ⟨#[]⟩]), 2, 32) := by kernel_rfl
  obtain ⟨i, hi, hz, hsize, hby⟩ := info_parts hi0
  have hlt := (Array.getElem?_eq_some_iff.1 h1).1
  have hown : W.ownsRow B 45 2 (.slice (some ⟨g1, 0, none⟩) 1 1) 1 [.string a, .string b] := ⟨rfl, .inr ⟨g1, 1, _, rfl, hB, h1, Nat.le_refl _, by decide, rfl, rfl⟩⟩
  have hn1 : ∀ j u, [Value.string a, .string b][j]? = some u → W.cell? ((⟨g1, 0, none⟩ : Addr).add j) = some u := by
    intro j u hu
    rw [Addr.add_lit, Nat.zero_add, cell_of_row W g1 j _ _ _ h1]; simpa using hu
  have hn2 : ∀ j u, [Value.string c, .string d][j]? = some u → W.cell? ((⟨g2, 0, none⟩ : Addr).add j) = some u := by
    intro j u hu
    rw [Addr.add_lit, Nat.zero_add, cell_of_row W g2 j _ _ _ h2]; simpa using hu
  obtain ⟨v', w', hrun, k2, -, -⟩ := run_append_own (P := Tryz.prog) W B 23 ty 45 i _ 2 32 Tryz.underlying23 hi hz hsize hby (by decide) (by decide) _ 1 _ hown ⟨g2, 0, none⟩ 1 1 _ rfl hn2 (by simp [Value.oneCell']) (by decide) (by decide) (by omega)
  have hgr := run_append_grow (P := Tryz.prog) W 23 ty 45 i _ Tryz.underlying23 hi hz ⟨g1, 0, none⟩ 1 1 [.string a, .string b] (by rw [hsize]; rfl) hn1 ⟨g2, 0, none⟩ 1 1 [.string c, .string d] (by rw [hsize]; rfl) hn2 (by decide) (by decide) (by rw [hby]; decide)
  refine ⟨v', w', hrun, ?_, k2⟩
  rw [hrun] at hgr
  injection hgr with _ e2
  rw [e2]
  exact (Below.refl _ _).drew.alloc (Nat.le_refl _) _
def ckO (id : ByteArray) : Obj := fldO cookieS (coP ++ id)
/-- what the operations of the statement that sets both requests' fields hand back -/
def spS (B p q : Nat) (mm tt id : ByteArray) (l1 l2 : List Fld) (i : Nat) (v : Value) (W : World) : Prop :=
  match i with
  | 0 => v = .agg #[.string cookieS, .string (coP ++ id)]
  | 1 => v = .pointer (some ⟨p, 0, none⟩)
  | 2 => v = .string mm
  | 3 => v = .agg #[.string hoN, .string mm]
  | 4 => OwnF B W v l1
  | 5 => v = .pointer (some ⟨q, 1, none⟩)
  | 6 => v = .string tt
  | 7 => v = .agg #[.string xN, .string tt]
  | 8 => ∃ b, B ≤ b ∧ v = .slice (some ⟨b, 0, none⟩) 1 1 ∧ W.heap[b]? = some (fldO xN tt)
  | 9 => v = .agg #[.string cookieS, .string (coP ++ id)]
  | 10 => ∃ b, B ≤ b ∧ v = .slice (some ⟨b, 0, none⟩) 1 1 ∧ W.heap[b]? = some (fldO cookieS (coP ++ id))
  | 11 => OwnF B W v l2
  | 12 => v = .pointer (some ⟨p, 3, none⟩)
  | 13 => Dn1 B p mm l1 W
  | 14 => v = .pointer (some ⟨q, 3, none⟩)
  | 15 => Dn2 B q tt l2 W
  | _ => True
theorem spS_mono {B p q : Nat} {mm tt id : ByteArray} {l1 l2 : List Fld} (hp : p < B) (hq : q < B) : ∀ (i : Nat) (v : Value) (X Y : World), Le5 B p q mm tt l1 l2 X Y → spS B p q mm tt id l1 l2 i v X → spS B p q mm tt id l1 l2 i v Y := by
  intro i v X Y hb h
  match i, h with
  | 0, h => exact h
  | 1, h => exact h
  | 2, h => exact h
  | 3, h => exact h
  | 4, h => exact own_le5 hb hp hq h
  | 5, h => exact h
  | 6, h => exact h
  | 7, h => exact h
  | 8, ⟨b, h1, h2, h3⟩ => exact ⟨b, h1, h2, (hb.keep b (Array.getElem?_eq_some_iff.1 h3).1 (by omega) (by omega)).trans h3⟩
  | 9, h => exact h
  | 10, ⟨b, h1, h2, h3⟩ => exact ⟨b, h1, h2, (hb.keep b (Array.getElem?_eq_some_iff.1 h3).1 (by omega) (by omega)).trans h3⟩
  | 11, h => exact own_le5 hb hp hq h
  | 12, h => exact h
  | 13, h => exact hb.d1 h
  | 14, h => exact h
  | 15, h => exact hb.d2 h
  | i + 16, h => trivial
/-- where the law stands ahead of that statement -/
structure SkA (w w1 W : World) (z z2 zc : Nat) (CA : Array Value) (q1 q2 q3 q4 q5 q6 p1 p2 p3 p4 p5 p6 : Int) (vw : Value) (ws : List Int) (mm tt id : ByteArray) : Prop where
  conf : W.heap[z]? = some (.cells CA 28)
  roll : W.heap[z + 1]? = some (rollO q1 q2 q3 q4 q5 q6)
  req : Rq1 (z + 1 + 1) mm W
  roll2 : W.heap[z2 + 1]? = some (rollO p1 p2 p3 p4 p5 p6)
  req2 : Rq2 (z2 + 1 + 1) tt W
  ck : W.heap[zc]? = some (ckO id)
  hb : Below w.heap.size w W
  pl : RdI w1 vw ws
  bz : Below z w1 W
  hz : w1.heap.size = z
  lo : w.heap.size ≤ z
  lo2 : z + 3 ≤ z2
  lo3 : z2 + 3 ≤ zc
/-- where it stands behind it -/
structure SkB (w W : World) (z z2 : Nat) (CA : Array Value) (q1 q2 q3 q4 q5 q6 p1 p2 p3 p4 p5 p6 : Int) (vw : Value) (ws : List Int) (v1 v2 : Value) (l1 l2 : List Fld) : Prop where
  conf : W.heap[z]? = some (.cells CA 28)
  roll : W.heap[z + 1]? = some (rollO q1 q2 q3 q4 q5 q6)
  roll2 : W.heap[z2 + 1]? = some (rollO p1 p2 p3 p4 p5 p6)
  s1 : W.cell? ⟨z + 1 + 1, 3, none⟩ = some v1
  s2 : W.cell? ⟨z2 + 1 + 1, 3, none⟩ = some v2
  f1 : RdF W v1 l1
  f2 : RdF W v2 l2
  hb : Below w.heap.size w W
  pl : RdI W vw ws
theorem SkB.below {w W W' : World} {z z2 : Nat} {CA : Array Value} {q1 q2 q3 q4 q5 q6 p1 p2 p3 p4 p5 p6 : Int} {vw : Value} {ws : List Int} {v1 v2 : Value} {l1 l2 : List Fld} (h : SkB w W z z2 CA q1 q2 q3 q4 q5 q6 p1 p2 p3 p4 p5 p6 vw ws v1 v2 l1 l2) (hb : Below W.heap.size W W') : SkB w W' z z2 CA q1 q2 q3 q4 q5 q6 p1 p2 p3 p4 p5 p6 vw ws v1 v2 l1 l2 :=
  ⟨row_below h.conf hb, row_below h.roll hb, row_below h.roll2 hb, cell_below hb h.s1, cell_below hb h.s2, h.f1.below hb, h.f2.below hb, Below.self_trans h.hb hb, h.pl.below hb⟩
/-- a frame written out -/
theorem tm_out (tm : Array Value) (h : tm.size = 139) : ∃ f : Nat → Value, (∀ i, tm.getD i undef = f i) ∧ tm = #[f 0, f 1, f 2, f 3, f 4, f 5, f 6, f 7, f 8, f 9, f 10, f 11, f 12, f 13, f 14, f 15, f 16, f 17, f 18, f 19, f 20, f 21, f 22, f 23, f 24, f 25, f 26, f 27, f 28, f 29, f 30, f 31, f 32, f 33, f 34, f 35, f 36, f 37, f 38, f 39, f 40, f 41, f 42, f 43, f 44, f 45, f 46, f 47, f 48, f 49, f 50, f 51, f 52, f 53, f 54, f 55, f 56, f 57, f 58, f 59, f 60, f 61, f 62, f 63, f 64, f 65, f 66, f 67, f 68, f 69, f 70, f 71, f 72, f 73, f 74, f 75, f 76, f 77, f 78, f 79, f 80, f 81, f 82, f 83, f 84, f 85, f 86, f 87, f 88, f 89, f 90, f 91, f 92, f 93, f 94, f 95, f 96, f 97, f 98, f 99, f 100, f 101, f 102, f 103, f 104, f 105, f 106, f 107, f 108, f 109, f 110, f 111, f 112, f 113, f 114, f 115, f 116, f 117, f 118, f 119, f 120, f 121, f 122, f 123, f 124, f 125, f 126, f 127, f 128, f 129, f 130, f 131, f 132, f 133, f 134, f 135, f 136, f 137, f 138] := by
  refine ⟨fun i => tm.getD i undef, fun i => rfl, Eq.trans (b := ((List.range 139).map fun i => tm.getD i undef).toArray) ?_ (by rfl)⟩
  apply Array.ext
  · simp [h]
  · intro i h1 h2
    simp [Array.getD, h1]
end Go.Proofs.YtfmokccoilgpmaaGreatDoor

/-! The core of RouteSticky: its walk. -/
namespace Go.Proofs.YtfmokccoilgpmaaGreatDoor
open Go.RowKit Go.Own
set_option linter.unusedVariables false
set_option linter.unusedSimpArgs false
set_option maxHeartbeats 4000000
set_option maxRecDepth 100000

theorem idOf_idB (h : Nat) : idB (idOf h) = true := by
  unfold idB
  rw [idOf_all, idOf_size]; rfl
theorem routeSticky_core (va vb vc vd : Value) (l m n o : List Int) (draw serial other : Int) (w : World) (hE : EnvP w) (h1 : RdI w va l) (h2 : RdI w vb m) (h3 : RdI w vc n) (h4 : RdI w vd o) (hd : In64 draw) (hs : In64 serial) (hot : In64 other) :
    Calls Tryz.prog 4 #[va, vb, vc, vd, .int .i64 draw, .int .i64 serial, .int .i64 other] w fun e w' => e = .returned (.bool true) ∧ Below w.heap.size w w' := by
  have HM := Lib.hid (made29_calls va vb l m w h1 h2)
  have HM0 := Lib.hid (fun W (hb : Below w.heap.size w W) => made29_calls vc vd n o W (h3.below hb) (h4.below hb))
  have HE := Lib.hid (fun W (hb : Below w.heap.size w W) => hE.below hb)
  have HN := Lib.hid (fun W => refNewID_calls draw serial W hd hs)
  have HD := Lib.hid (And.intro hd (And.intro hs hot))
  clear h1 h2 h3 h4 hE hd hs hot
  go_enter Tryz.func4, Tryz.ntmps4
  go_wp2_with fail
  refine HM.out.mono ?_
  rintro e w1 ⟨⟨C, vw, vig, q1, q2, q3, q4, q5, q6, mm, t, n, vf, x, fr, vy, b, rfl, hpw, ⟨hsalt, hvig⟩, hrq, hrf, hry⟩, hb1⟩
  have hvw : vw.oneCell' = true := by obtain ⟨⟨a, c, rfl, -⟩, -⟩ := hpw; rfl
  obtain ⟨CA, hCA⟩ : ∃ CA : Array Value, CA = (C.cells vw vig).toArray := ⟨_, rfl⟩
  obtain ⟨af, cf, rfl, -, -, -, -⟩ := id hrf
  obtain ⟨ay, cy, rfl, -, -, -, -⟩ := id hry
  have hfa := Lib.hid (cfFacts C vw vig hvw hvig)
  rw [← hCA] at hfa ⊢
  have HCA := Lib.hid hCA
  clear hCA
  have hi26 := Lib.hid (show (Tryz.prog.info? 28).map (·.size) = some CA.size by rw [hfa.out.1]; kernel_rfl)
  have H3 := Lib.hid (three_at w1 #[.int .i64 0, .int .i64 0, .int .i64 0, .int .i64 0, .int .i64 0, .int .i64 0, .int .i64 0, .int .i64 0, .int .i64 0, .int .i64 0, .int .i64 0, .int .i64 0, .int .i64 0, .int .i64 0, .int .i64 0, .int .i64 0, .slice none 0 0, .int .i64 0, .int .i64 0, .int .i64 0, .int .i64 0, .int .i64 0, .string ⟨#[]⟩, .string ⟨#[]⟩, .bool false, .slice none 0 0] #[.int .i64 0, .int .i64 0, .int .i64 0, .int .i64 0, .int .i64 0, .int .i64 0] #[.string ⟨#[]⟩, .string ⟨#[]⟩, .int .i64 0, .slice none 0 0, .bool false, .slice none 0 0] CA #[.int .i64 q1, .int .i64 q2, .int .i64 q3, .int .i64 q4, .int .i64 q5, .int .i64 q6] 28 32 35)
  have HM3 := Lib.hid (fun W hW => three_rows w1 #[.int .i64 0, .int .i64 0, .int .i64 0, .int .i64 0, .int .i64 0, .int .i64 0, .int .i64 0, .int .i64 0, .int .i64 0, .int .i64 0, .int .i64 0, .int .i64 0, .int .i64 0, .int .i64 0, .int .i64 0, .int .i64 0, .slice none 0 0, .int .i64 0, .int .i64 0, .int .i64 0, .int .i64 0, .int .i64 0, .string ⟨#[]⟩, .string ⟨#[]⟩, .bool false, .slice none 0 0] #[.int .i64 0, .int .i64 0, .int .i64 0, .int .i64 0, .int .i64 0, .int .i64 0] #[.string ⟨#[]⟩, .string ⟨#[]⟩, .int .i64 0, .slice none 0 0, .bool false, .slice none 0 0] CA #[.int .i64 q1, .int .i64 q2, .int .i64 q3, .int .i64 q4, .int .i64 q5, .int .i64 q6] #[.string mm, .string t, .int .i64 n, .slice af x.length cf, .bool fr, .slice ay b.length cy] 28 32 35 W hW)
  have HPW := Lib.hid hpw
  have HB1 := Lib.hid (hb1)
  have HB1s := Lib.hid hb1
  clear hry hvw hpw hrf hb1 HM
  go_upto_region 2 with (first
    | (refine wpList_store_row (o := ⟨none, _, _, _, _, _⟩) rfl 28 (.tmp 15) (.tmp 31) rfl w1.heap.size CA rfl rfl 28 _ H3.out.1 hi26.out hfa.out.1.symm hfa.out.2.1 ?_; simp only [Act.put])
    | (refine wpList_store_row (o := ⟨none, _, _, _, _, _⟩) rfl 32 (.tmp 16) (.tmp 32) rfl (w1.heap.size + 1) #[.int .i64 q1, .int .i64 q2, .int .i64 q3, .int .i64 q4, .int .i64 q5, .int .i64 q6] rfl rfl 32 _ H3.out.2.1 (by kernel_rfl) rfl (by kernel_rfl) ?_; simp only [Act.put])
    | (refine wpList_store_row (o := ⟨none, _, _, _, _, _⟩) rfl 35 (.tmp 17) (.tmp 33) rfl (w1.heap.size + 1 + 1) #[.string mm, .string t, .int .i64 n, .slice af x.length cf, .bool fr, .slice ay b.length cy] rfl rfl 35 _ H3.out.2.2 (by kernel_rfl) rfl (by kernel_rfl) ?_; simp only [Act.put]))
  have M3 := HM3.out _ rfl
  clear HM3 H3
  generalize ((((((w1.alloc (.cells #[.int .i64 0, .int .i64 0, .int .i64 0, .int .i64 0, .int .i64 0, .int .i64 0, .int .i64 0, .int .i64 0, .int .i64 0, .int .i64 0, .int .i64 0, .int .i64 0, .int .i64 0, .int .i64 0, .int .i64 0, .int .i64 0, .slice none 0 0, .int .i64 0, .int .i64 0, .int .i64 0, .int .i64 0, .int .i64 0, .string ⟨#[]⟩, .string ⟨#[]⟩, .bool false, .slice none 0 0] 28)).alloc (.cells #[.int .i64 0, .int .i64 0, .int .i64 0, .int .i64 0, .int .i64 0, .int .i64 0] 32)).alloc (.cells #[.string ⟨#[]⟩, .string ⟨#[]⟩, .int .i64 0, .slice none 0 0, .bool false, .slice none 0 0] 35)).setRow w1.heap.size CA).setRow (w1.heap.size + 1) #[.int .i64 q1, .int .i64 q2, .int .i64 q3, .int .i64 q4, .int .i64 q5, .int .i64 q6]).setRow (w1.heap.size + 1 + 1) #[.string mm, .string t, .int .i64 n, .slice af x.length cf, .bool fr, .slice ay b.length cy]) = w2 at *
  have HA : Md3 w1 w2 CA q1 q2 q3 q4 q5 q6 mm t n (.slice af x.length cf) fr (.slice ay b.length cy) := ⟨M3.1, M3.2.1, M3.2.2.1, M3.2.2.2⟩
  have HBw2 := Lib.hid (Below.self_trans HB1.out HA.hb)
  clear M3
  have hz1 : w.heap.size ≤ w1.heap.size := HB1.out.size
  have hz2 : w1.heap.size + 3 ≤ w2.heap.size := by have := (Array.getElem?_eq_some_iff.1 HA.req).1; omega
  have HPl := Lib.hid HPW.out
  have HBz := Lib.hid HA.hb
  have HA := Lib.hid HA
  have HM2 := Lib.hid (HM0.out _ HBw2.out)
  clear HM0 HB1 HB1s HPW
  go_wp2_with fail
  refine HM2.out.mono ?_
  rintro e w3 ⟨⟨C2, vw2, vig2, p1, p2, p3, p4, p5, p6, mm2, t2, n2, vf2, x2, fr2, vy2, b2, rfl, hpw2, ⟨hsalt2, hvig2⟩, hrq2, hrf2, hry2⟩, hb1⟩
  have hvw : vw2.oneCell' = true := by obtain ⟨⟨a, c, rfl, -⟩, -⟩ := hpw2; rfl
  obtain ⟨CA2, hCA⟩ : ∃ CA : Array Value, CA = (C2.cells vw2 vig2).toArray := ⟨_, rfl⟩
  obtain ⟨af2, cf2, rfl, -, -, -, -⟩ := id hrf2
  obtain ⟨ay2, cy2, rfl, -, -, -, -⟩ := id hry2
  have hfa2 := Lib.hid (cfFacts C2 vw2 vig2 hvw hvig2)
  rw [← hCA] at hfa2 ⊢
  have HCA2 := Lib.hid hCA
  clear hCA
  have hi262 := Lib.hid (show (Tryz.prog.info? 28).map (·.size) = some CA2.size by rw [hfa2.out.1]; kernel_rfl)
  have H3 := Lib.hid (three_at w3 #[.int .i64 0, .int .i64 0, .int .i64 0, .int .i64 0, .int .i64 0, .int .i64 0, .int .i64 0, .int .i64 0, .int .i64 0, .int .i64 0, .int .i64 0, .int .i64 0, .int .i64 0, .int .i64 0, .int .i64 0, .int .i64 0, .slice none 0 0, .int .i64 0, .int .i64 0, .int .i64 0, .int .i64 0, .int .i64 0, .string ⟨#[]⟩, .string ⟨#[]⟩, .bool false, .slice none 0 0] #[.int .i64 0, .int .i64 0, .int .i64 0, .int .i64 0, .int .i64 0, .int .i64 0] #[.string ⟨#[]⟩, .string ⟨#[]⟩, .int .i64 0, .slice none 0 0, .bool false, .slice none 0 0] CA2 #[.int .i64 p1, .int .i64 p2, .int .i64 p3, .int .i64 p4, .int .i64 p5, .int .i64 p6] 28 32 35)
  have HM3 := Lib.hid (fun W hW => three_rows w3 #[.int .i64 0, .int .i64 0, .int .i64 0, .int .i64 0, .int .i64 0, .int .i64 0, .int .i64 0, .int .i64 0, .int .i64 0, .int .i64 0, .int .i64 0, .int .i64 0, .int .i64 0, .int .i64 0, .int .i64 0, .int .i64 0, .slice none 0 0, .int .i64 0, .int .i64 0, .int .i64 0, .int .i64 0, .int .i64 0, .string ⟨#[]⟩, .string ⟨#[]⟩, .bool false, .slice none 0 0] #[.int .i64 0, .int .i64 0, .int .i64 0, .int .i64 0, .int .i64 0, .int .i64 0] #[.string ⟨#[]⟩, .string ⟨#[]⟩, .int .i64 0, .slice none 0 0, .bool false, .slice none 0 0] CA2 #[.int .i64 p1, .int .i64 p2, .int .i64 p3, .int .i64 p4, .int .i64 p5, .int .i64 p6] #[.string mm2, .string t2, .int .i64 n2, .slice af2 x2.length cf2, .bool fr2, .slice ay2 b2.length cy2] 28 32 35 W hW)
  have HPW2 := Lib.hid hpw2
  have HB1 := Lib.hid (Below.self_trans HBw2.out hb1)
  have HB1s := Lib.hid hb1
  clear hry2 hvw hpw2 hrf2 hb1 HM2
  go_upto_region 3 with (first
    | (refine wpList_store_row (o := ⟨none, _, _, _, _, _⟩) rfl 28 (.tmp 18) (.tmp 38) rfl w3.heap.size CA2 rfl rfl 28 _ H3.out.1 hi262.out hfa2.out.1.symm hfa2.out.2.1 ?_; simp only [Act.put])
    | (refine wpList_store_row (o := ⟨none, _, _, _, _, _⟩) rfl 32 (.tmp 19) (.tmp 39) rfl (w3.heap.size + 1) #[.int .i64 p1, .int .i64 p2, .int .i64 p3, .int .i64 p4, .int .i64 p5, .int .i64 p6] rfl rfl 32 _ H3.out.2.1 (by kernel_rfl) rfl (by kernel_rfl) ?_; simp only [Act.put])
    | (refine wpList_store_row (o := ⟨none, _, _, _, _, _⟩) rfl 35 (.tmp 20) (.tmp 40) rfl (w3.heap.size + 1 + 1) #[.string mm2, .string t2, .int .i64 n2, .slice af2 x2.length cf2, .bool fr2, .slice ay2 b2.length cy2] rfl rfl 35 _ H3.out.2.2 (by kernel_rfl) rfl (by kernel_rfl) ?_; simp only [Act.put]))
  have M3 := HM3.out _ rfl
  clear HM3 H3
  generalize ((((((w3.alloc (.cells #[.int .i64 0, .int .i64 0, .int .i64 0, .int .i64 0, .int .i64 0, .int .i64 0, .int .i64 0, .int .i64 0, .int .i64 0, .int .i64 0, .int .i64 0, .int .i64 0, .int .i64 0, .int .i64 0, .int .i64 0, .int .i64 0, .slice none 0 0, .int .i64 0, .int .i64 0, .int .i64 0, .int .i64 0, .int .i64 0, .string ⟨#[]⟩, .string ⟨#[]⟩, .bool false, .slice none 0 0] 28)).alloc (.cells #[.int .i64 0, .int .i64 0, .int .i64 0, .int .i64 0, .int .i64 0, .int .i64 0] 32)).alloc (.cells #[.string ⟨#[]⟩, .string ⟨#[]⟩, .int .i64 0, .slice none 0 0, .bool false, .slice none 0 0] 35)).setRow w3.heap.size CA2).setRow (w3.heap.size + 1) #[.int .i64 p1, .int .i64 p2, .int .i64 p3, .int .i64 p4, .int .i64 p5, .int .i64 p6]).setRow (w3.heap.size + 1 + 1) #[.string mm2, .string t2, .int .i64 n2, .slice af2 x2.length cf2, .bool fr2, .slice ay2 b2.length cy2]) = w4 at *
  have HA2 : Md3 w3 w4 CA2 p1 p2 p3 p4 p5 p6 mm2 t2 n2 (.slice af2 x2.length cf2) fr2 (.slice ay2 b2.length cy2) := ⟨M3.1, M3.2.1, M3.2.2.1, M3.2.2.2⟩
  have HBw4 := Lib.hid (Below.self_trans HB1.out HA2.hb)
  clear M3
  have hz3 : w1.heap.size + 3 ≤ w3.heap.size := by have := HB1s.out.size; omega
  have hz4 : w3.heap.size + 3 ≤ w4.heap.size := by have := (Array.getElem?_eq_some_iff.1 HA2.req).1; omega
  have HB24 := Below.self_trans HB1s.out HA2.hb
  have c1 := Lib.hid (row_below HA.out.conf HB24)
  have c2 := Lib.hid (row_below HA.out.roll HB24)
  have c3 := Lib.hid (row_below HA.out.req HB24)
  have c4 := Lib.hid HA2.roll
  have c5 := Lib.hid HA2.req
  have HPl4 := Lib.hid (Below.self_trans HBz.out HB24)
  clear HA HA2 HB24 HB1 HB1s HPW2 HBz HBw2
  have HZ := Lib.hid (And.intro hz1 (And.intro hz3 hz4))
  clear hz1 hz2 hz3 hz4
  generalize hzw : w1.heap.size = z at *
  have HZW := Lib.hid hzw
  clear hzw
  generalize w3.heap.size = z2 at *
  go_wp2_with fail
  refine (HN.out _).mono ?_
  rintro e w5 ⟨rfl, hb5⟩
  have hidA := Lib.hid (idOf_all (hsum [bs (digs 10 draw.toNat), bs (digs 10 serial.toNat)]).toNat)
  have hidB := Lib.hid (idOf_idB (hsum [bs (digs 10 draw.toNat), bs (digs 10 serial.toNat)]).toNat)
  have hidz := Lib.hid (idOf_size (hsum [bs (digs 10 draw.toNat), bs (digs 10 serial.toNat)]).toNat)
  generalize idOf (hsum [bs (digs 10 draw.toNat), bs (digs 10 serial.toNat)]).toNat = id at *
  have hs16 : id.size = 16 := hidz.out
  have hb6 := (Below.refl w5.heap.size w5).alloc (Nat.le_refl _) (ckO id)
  have hb46 := Below.self_trans hb5 hb6
  have HS : SkA w w1 (w5.alloc (ckO id)) z z2 w5.heap.size CA q1 q2 q3 q4 q5 q6 p1 p2 p3 p4 p5 p6 vw C.P.ws mm t2 id :=
    ⟨row_below c1.out hb46, row_below c2.out hb46, ⟨_, _, _, _, _, row_below c3.out hb46⟩, row_below c4.out hb46, ⟨_, _, _, _, _, row_below c5.out hb46⟩, heap_alloc_new _ _, Below.self_trans HBw4.out hb46, HPl.out, HPl4.out.trans (hb46.mono (by have := HZ.out.2; omega)), HZW.out, HZ.out.1, HZ.out.2.1, by have := HZ.out.2.2; have := hb5.size; omega⟩
  have HS := Lib.hid HS
  have HZ6 := Lib.hid (show (w5.alloc (ckO id)).heap.size = w5.heap.size + 1 by simp)
  have hck : ckO id = .cells #[.string ⟨#[67, 111, 111, 107, 105, 101]⟩, .string (⟨#[99, 111, 104, 111, 114, 116, 61]⟩ ++ id)] 45 := rfl
  rw [hck] at HS HZ6
  clear c1 c2 c3 c4 c5 hb5 hb6 hb46 HBw4 HPl HPl4 HN hck HZ HZW
  go_upto_region 5 with fail
  have HSo := HS.out
  have HZ6o := HZ6.out
  clear HS HZ6
  generalize w5.alloc (.cells #[.string ⟨#[67, 111, 111, 107, 105, 101]⟩, .string (⟨#[99, 111, 104, 111, 114, 116, 61]⟩ ++ id)] 45) = w6 at *
  generalize w5.heap.size = zc at *
  have HS := Lib.hid HSo
  have HP := Lib.hid (show z + 1 + 1 < zc + 1 ∧ z2 + 1 + 1 < zc + 1 ∧ z2 + 1 + 1 ≠ z + 1 + 1 ∧ w.heap.size ≤ z + 1 + 1 ∧ w.heap.size ≤ z2 + 1 + 1 ∧ zc ≠ z + 1 + 1 ∧ zc ≠ z2 + 1 + 1 by have := HSo.lo; have := HSo.lo2; have := HSo.lo3; omega)
  have HB6 := Lib.hid (show zc + 1 ≤ w6.heap.size by omega)
  clear HSo HZ6o
  have HLE0 := Lib.hid (le5_of (B := zc + 1) (p := z + 1 + 1) (q := z2 + 1 + 1) (mm := mm) (tt := t2) (l1 := [⟨cookieS, coP ++ id⟩, ⟨hoN, mm⟩]) (l2 := [⟨xN, t2⟩, ⟨cookieS, coP ++ id⟩]) w6 w6.drew ((Below.refl _ _).drew))
  have HLB := Lib.hid (fun W (hle : Le5 (zc + 1) (z + 1 + 1) (z2 + 1 + 1) mm t2 [⟨cookieS, coP ++ id⟩, ⟨hoN, mm⟩] [⟨xN, t2⟩, ⟨cookieS, coP ++ id⟩] w6.drew W) => le5_trans _ _ _ HLE0.out hle)
  have HCK := Lib.hid (fun W hle => (((HLB.out W hle).keep zc (Array.getElem?_eq_some_iff.1 HS.out.ck).1 HP.out.2.2.2.2.2.1 HP.out.2.2.2.2.2.2).trans HS.out.ck))
  have HSZ := Lib.hid (fun W hle => Nat.le_trans HB6.out (HLB.out W hle).size)
  clear HLE0
  refine wp_region_specM_lit (LeS := fun x y => Below x.heap.size x y) (Le := Le5 (zc + 1) (z + 1 + 1) (z2 + 1 + 1) mm t2 [⟨cookieS, coP ++ id⟩, ⟨hoN, mm⟩] [⟨xN, t2⟩, ⟨cookieS, coP ++ id⟩]) (wr := fun i => i == 13 || i == 15) (Sp := spS (zc + 1) (z + 1 + 1) (z2 + 1 + 1) mm t2 id [⟨cookieS, coP ++ id⟩, ⟨hoN, mm⟩] [⟨xN, t2⟩, ⟨cookieS, coP ++ id⟩]) rfl (by kernel_rfl) le5_trans (spS_mono HP.out.1 HP.out.2.1) (fun x => Below.refl _ _) le5_of (fun x y z h1 h2 => Below.self_trans h1 h2) ⟨?_, ?_, ?_, ?_, ?_, ?_, ?_, ?_, ?_, ?_, ?_, ?_, ?_, ?_, ?_, ?_, trivial⟩ ?_
  · refine stepOkM_val rfl fun a w' hle hls hk hq hp => ⟨rfl, _, w', run_load_row _ rfl (kept_eval (s := 22) hk rfl) (HCK.out w' hle) Tryz.underlying45 rfl (by kernel_rfl), Below.refl _ _, rfl⟩
  · refine stepOkM_val rfl fun a w' hle hls hk hq hp => ⟨rfl, _, w', ?_, Below.refl _ _, rfl⟩
    have g0 := ev (kept_eval (s := 17) hk rfl)
    simp at g0
    clear hp hk hq hle hls
    simp [execOp, go_sem, g0]
  · refine stepOkM_val rfl fun a w' hle hls hk hq hp => ⟨rfl, _, w', ?_, Below.refl _ _, rfl⟩
    have g0 := ev (show a.eval (.tmp 48) = _ from hp 1 _ rfl rfl)
    obtain ⟨t', n', v', fr', vy', hr⟩ := (HLB.out w' hle).r1 HS.out.req
    have d0 : w'.cell? ⟨z + 1 + 1, 0, none⟩ = some (.string mm) := cell_of_row w' _ 0 _ _ _ hr
    clear hp hk hq hle hls hr
    simp [execOp, go_sem, g0, d0]
  · refine stepOkM_val rfl fun a w' hle hls hk hq hp => ⟨rfl, _, w', ?_, Below.refl _ _, rfl⟩
    have g0 := ev (show a.eval (.tmp 49) = _ from hp 2 _ rfl rfl)
    clear hp hk hq hle hls
    simp [execOp, go_sem, g0, hoN]
  · refine stepOkM_val rfl fun a w' hle hls hk hq hp => ⟨rfl, .slice (some ⟨w'.heap.size, 0, none⟩) 2 2, w'.alloc (.cells #[.string cookieS, .string (coP ++ id), .string hoN, .string mm] 45), ?_, (Below.refl _ _).alloc (Nat.le_refl _) _, World.ownsRow_lit w' _ 2 (HSZ.out w' hle) (by decide) rfl⟩
    have g0 := ev (show a.eval (.tmp 47) = _ from hp 0 _ rfl rfl)
    have g1 := ev (show a.eval (.tmp 50) = _ from hp 3 _ rfl rfl)
    clear hp hk hq hle hls
    simp [execOp, go_sem, g0, g1]
  · refine stepOkM_val rfl fun a w' hle hls hk hq hp => ⟨rfl, _, w', ?_, Below.refl _ _, rfl⟩
    have g0 := ev (kept_eval (s := 20) hk rfl)
    simp at g0
    clear hp hk hq hle hls
    simp [execOp, go_sem, g0]
  · refine stepOkM_val rfl fun a w' hle hls hk hq hp => ⟨rfl, _, w', ?_, Below.refl _ _, rfl⟩
    have g0 := ev (show a.eval (.tmp 52) = _ from hp 5 _ rfl rfl)
    obtain ⟨t', n', v', fr', vy', hr⟩ := (HLB.out w' hle).r2 HS.out.req2
    have d0 : w'.cell? ⟨z2 + 1 + 1, 1, none⟩ = some (.string t2) := cell_of_row w' _ 1 _ _ _ hr
    clear hp hk hq hle hls hr
    simp [execOp, go_sem, g0, d0]
  · refine stepOkM_val rfl fun a w' hle hls hk hq hp => ⟨rfl, _, w', ?_, Below.refl _ _, rfl⟩
    have g0 := ev (show a.eval (.tmp 53) = _ from hp 6 _ rfl rfl)
    clear hp hk hq hle hls
    simp [execOp, go_sem, g0, xN]
  · refine stepOkM_val rfl fun a w' hle hls hk hq hp => ⟨rfl, .slice (some ⟨w'.heap.size, 0, none⟩) 1 1, w'.alloc (fldO xN t2), ?_, (Below.refl _ _).alloc (Nat.le_refl _) _, ⟨_, HSZ.out w' hle, rfl, heap_alloc_new _ _⟩⟩
    have g0 := ev (show a.eval (.tmp 54) = _ from hp 7 _ rfl rfl)
    clear hp hk hq hle hls
    simp [execOp, go_sem, g0, fldO]
  · refine stepOkM_val rfl fun a w' hle hls hk hq hp => ⟨rfl, _, w', run_load_row _ rfl (kept_eval (s := 22) hk rfl) (HCK.out w' hle) Tryz.underlying45 rfl (by kernel_rfl), Below.refl _ _, rfl⟩
  · refine stepOkM_val rfl fun a w' hle hls hk hq hp => ⟨rfl, .slice (some ⟨w'.heap.size, 0, none⟩) 1 1, w'.alloc (fldO cookieS (coP ++ id)), ?_, (Below.refl _ _).alloc (Nat.le_refl _) _, ⟨_, HSZ.out w' hle, rfl, heap_alloc_new _ _⟩⟩
    have g0 := ev (show a.eval (.tmp 56) = _ from hp 9 _ rfl rfl)
    clear hp hk hq hle hls
    simp [execOp, go_sem, g0, fldO]
  · refine stepOkM_val rfl fun a w' hle hls hk hq hp => ?_
    obtain ⟨b1, hb1, hv1, hr1⟩ := (show ∃ b, zc + 1 ≤ b ∧ a.eval (.tmp 55) = .slice (some ⟨b, 0, none⟩) 1 1 ∧ w'.heap[b]? = some (fldO xN t2) from hp 8 _ rfl rfl)
    obtain ⟨b2, -, hv2, hr2⟩ := (show ∃ b, zc + 1 ≤ b ∧ a.eval (.tmp 57) = .slice (some ⟨b, 0, none⟩) 1 1 ∧ w'.heap[b]? = some (fldO cookieS (coP ++ id)) from hp 10 _ rfl rfl)
    obtain ⟨v', w'', hrun, hbel, hown⟩ := run_append_two w' (zc + 1) b1 b2 xN t2 cookieS (coP ++ id) 23 hb1 hr1 hr2
    refine ⟨rfl, v', w'', ?_, hbel, hown⟩
    clear hp hk hq hle hls
    unfold execOp
    simp only [resolve, invoke, builtin, Sem.run_bind, Sem.run_pure, Result.andThen_ok, List.map_toArray, List.map_cons, List.map_nil, hv1, hv2, hrun]
  · refine stepOkM_val rfl fun a w' hle hls hk hq hp => ⟨rfl, _, w', ?_, Below.refl _ _, rfl⟩
    have g0 := ev (kept_eval (s := 17) hk rfl)
    simp at g0
    clear hp hk hq hle hls
    simp [execOp, go_sem, g0]
  · refine stepOkM_doW rfl fun a w' hle hls hk hq hp => ?_
    have g0 := ev (show a.eval (.tmp 59) = _ from hp 12 _ rfl rfl)
    have ho : OwnF (zc + 1) w' (a.eval (.tmp 51)) _ := hp 4 _ rfl rfl
    obtain ⟨sa, sc, hsv, -, -, -⟩ := owned_slice ho
    have g1 := ev hsv
    rw [hsv] at ho
    obtain ⟨t', n', v', fr', vy', hr⟩ := (HLB.out w' hle).r1 HS.out.req
    unfold reqO at hr
    obtain ⟨⟨d0, d1, d2, d3, d4, d5⟩, ⟨f0, f1, f2, f3, f4, f5⟩, -⟩ := row6 hr
    have hgr := grown_set w' (z + 1 + 1) 3 (.slice sa 2 sc)
    have hd : Dn1 (zc + 1) (z + 1 + 1) mm [⟨cookieS, coP ++ id⟩, ⟨hoN, mm⟩] (w'.setCell ⟨z + 1 + 1, 3, none⟩ (.slice sa 2 sc)) :=
      ⟨t', n', .slice sa 2 sc, fr', vy', (heap_setCell_same w' _ 3 _ _ _ hr).trans (by simp [reqO]), own_src ho hgr HP.out.1⟩
    refine ⟨rfl, w'.setCell ⟨z + 1 + 1, 3, none⟩ (.slice sa 2 sc), ?_, le5_put1 hgr HP.out.1 HP.out.2.2.1 hd, hd⟩
    clear hp hk hq hle hls hr hd hgr ho
    simp [execOp, go_sem, g0, g1, d3, f3]
  · refine stepOkM_val rfl fun a w' hle hls hk hq hp => ⟨rfl, _, w', ?_, Below.refl _ _, rfl⟩
    have g0 := ev (kept_eval (s := 20) hk rfl)
    simp at g0
    clear hp hk hq hle hls
    simp [execOp, go_sem, g0]
  · refine stepOkM_doW rfl fun a w' hle hls hk hq hp => ?_
    have g0 := ev (show a.eval (.tmp 60) = _ from hp 14 _ rfl rfl)
    have ho : OwnF (zc + 1) w' (a.eval (.tmp 58)) _ := hp 11 _ rfl rfl
    obtain ⟨sa, sc, hsv, -, -, -⟩ := owned_slice ho
    have g1 := ev hsv
    rw [hsv] at ho
    obtain ⟨t', n', v', fr', vy', hr⟩ := (HLB.out w' hle).r2 HS.out.req2
    unfold reqO at hr
    obtain ⟨⟨d0, d1, d2, d3, d4, d5⟩, ⟨f0, f1, f2, f3, f4, f5⟩, -⟩ := row6 hr
    have hgr := grown_set w' (z2 + 1 + 1) 3 (.slice sa 2 sc)
    have hd : Dn2 (zc + 1) (z2 + 1 + 1) t2 [⟨xN, t2⟩, ⟨cookieS, coP ++ id⟩] (w'.setCell ⟨z2 + 1 + 1, 3, none⟩ (.slice sa 2 sc)) :=
      ⟨t', n', .slice sa 2 sc, fr', vy', (heap_setCell_same w' _ 3 _ _ _ hr).trans (by simp [reqO]), own_src ho hgr HP.out.2.1⟩
    refine ⟨rfl, w'.setCell ⟨z2 + 1 + 1, 3, none⟩ (.slice sa 2 sc), ?_, le5_put2 hgr HP.out.2.1 (Ne.symm HP.out.2.2.1) hd, hd⟩
    clear hp hk hq hle hls hr hd hgr ho
    simp [execOp, go_sem, g0, g1, d3, f3]
  · intro a w' hle hk hp
    obtain ⟨tm, df⟩ := a
    obtain ⟨f, hf, htm⟩ := tm_out tm hk.2.1
    have fq4 : f 4 = .int .i64 draw := (hf 4).symm.trans (hk.2.2 4 rfl)
    have fq5 : f 5 = .int .i64 serial := (hf 5).symm.trans (hk.2.2 5 rfl)
    have fq6 : f 6 = .int .i64 other := (hf 6).symm.trans (hk.2.2 6 rfl)
    have fq14 : f 14 = .bool false := (hf 14).symm.trans (hk.2.2 14 rfl)
    have fq15 : f 15 = .pointer (some ⟨z, 0, none⟩) := (hf 15).symm.trans (hk.2.2 15 rfl)
    have fq16 : f 16 = .pointer (some ⟨z + 1, 0, none⟩) := (hf 16).symm.trans (hk.2.2 16 rfl)
    have fq17 : f 17 = .pointer (some ⟨z + 1 + 1, 0, none⟩) := (hf 17).symm.trans (hk.2.2 17 rfl)
    have fq19 : f 19 = .pointer (some ⟨z2 + 1, 0, none⟩) := (hf 19).symm.trans (hk.2.2 19 rfl)
    have fq20 : f 20 = .pointer (some ⟨z2 + 1 + 1, 0, none⟩) := (hf 20).symm.trans (hk.2.2 20 rfl)
    have fq21 : f 21 = .string id := (hf 21).symm.trans (hk.2.2 21 rfl)
    have qd : df = [] := hk.1
    have r1 := (show Dn1 (zc + 1) (z + 1 + 1) mm [⟨cookieS, coP ++ id⟩, ⟨hoN, mm⟩] w' from hp 13 _ rfl)
    have r2 := (show Dn2 (zc + 1) (z2 + 1 + 1) t2 [⟨xN, t2⟩, ⟨cookieS, coP ++ id⟩] w' from hp 15 _ rfl)
    obtain ⟨t', n', v1, fr', vy', hr1, ho1⟩ := r1
    obtain ⟨t'', n'', v2, fr'', vy'', hr2, ho2⟩ := r2
    have hle6 := HLB.out w' hle
    have hbw := le5_below HS.out.hb HP.out.2.2.2.1 HP.out.2.2.2.2.1 hle6
    have k1 := (hle6.keep z (Array.getElem?_eq_some_iff.1 HS.out.conf).1 (by omega) (by have := HS.out.lo2; omega)).trans HS.out.conf
    have k2 := (hle6.keep (z + 1) (Array.getElem?_eq_some_iff.1 HS.out.roll).1 (by omega) (by have := HS.out.lo2; omega)).trans HS.out.roll
    have k3 := (hle6.keep (z2 + 1) (Array.getElem?_eq_some_iff.1 HS.out.roll2).1 (by have := HS.out.lo2; omega) (by omega)).trans HS.out.roll2
    obtain ⟨sa1, sc1, rfl, -, -, -⟩ := owned_slice ho1
    obtain ⟨sa2, sc2, rfl, -, -, -⟩ := owned_slice ho2
    have hbz := le5_below (w := w1) (by rw [HS.out.hz]; exact HS.out.bz) (by rw [HS.out.hz]; omega) (by rw [HS.out.hz]; have := HS.out.lo2; omega) hle6
    have HB : Hid (SkB w w' z z2 CA q1 q2 q3 q4 q5 q6 p1 p2 p3 p4 p5 p6 vw C.P.ws (.slice sa1 2 sc1) (.slice sa2 2 sc2) [⟨cookieS, coP ++ id⟩, ⟨hoN, mm⟩] [⟨xN, t2⟩, ⟨cookieS, coP ++ id⟩]) :=
      Lib.hid ⟨k1, k2, k3, cell_of_row w' _ 3 _ _ _ hr1, cell_of_row w' _ 3 _ _ _ hr2, ho1.rd, ho2.rd, hbw, HS.out.pl.below hbz⟩
    have hmm := hrq.1
    have htt := hrq2.2.1
    have hz23 : (coP ++ id).size = 23 := by rw [ByteArray.size_append, hidz.out]; rfl
    have hF1 : fsize [⟨cookieS, coP ++ id⟩, ⟨hoN, mm⟩] ≤ 2000000 := by simp [fsize, hz23, show cookieS.size = 6 from rfl, show hoN.size = 4 from rfl]; omega
    have hF2 : fsize [⟨xN, t2⟩, ⟨cookieS, coP ++ id⟩] ≤ 2000000 := by simp [fsize, hz23, show cookieS.size = 6 from rfl, show xN.size = 1 from rfl]; omega
    have HC1 := fun W (hb : Below w'.heap.size w' W) => chooseC_calls C vw vig CA HCA.out q1 q2 q3 q4 q5 q6 _ [⟨cookieS, coP ++ id⟩, ⟨hoN, mm⟩] draw serial W (HE.out W (HB.out.below hb).hb) (HB.out.below hb).pl (HB.out.below hb).f1 hF1 hsalt HD.out.1 HD.out.2.1
    have HC2 := fun W (hb : Below w'.heap.size w' W) => chooseC_calls C vw vig CA HCA.out p1 p2 p3 p4 p5 p6 _ [⟨xN, t2⟩, ⟨cookieS, coP ++ id⟩] other other W (HE.out W (HB.out.below hb).hb) (HB.out.below hb).pl (HB.out.below hb).f2 hF2 hsalt HD.out.2.2 HD.out.2.2
    have e1 := find_st1 id mm hidA.out
    have e2 := find_st2 id t2 hidA.out
    unfold nameCohort at e1 e2
    rw [e1] at HC1
    rw [e2] at HC2
    simp only [route_found _ _ _ _ _ hidB.out] at HC1 HC2
    have HW := fun W (hb : Below w'.heap.size w' W) (a1 a2 a3 a4 a5 a6 : Int) => rollW_calls C.P (C.P.agg vw) a1 a2 a3 a4 a5 a6 W ⟨vw, rfl, (HB.out.below hb).pl⟩
    have HOF := fun W => bof_calls C.salt id W (by have := hsalt; unfold maxLen; omega) (by rw [hidz.out]; decide)
    have HAW := fun W (hb : Below w'.heap.size w' W) => awake29_calls W (HE.out W (HB.out.below hb).hb)
    have hk1 := classI_if C.salt id (rollW q1 q2 C.P)
    have hk2 := classI_if C.salt id (rollW p1 p2 C.P)
    generalize classI C.salt id (rollW q1 q2 C.P) = kk1 at *
    generalize classI C.salt id (rollW p1 p2 C.P) = kk2 at *
    generalize bucketI C.salt id = bk at *
    have HC1 := Lib.hid HC1
    have HC2 := Lib.hid HC2
    have HW := Lib.hid HW
    have HOF := Lib.hid HOF
    have HAW := Lib.hid HAW
    have HK1 := Lib.hid hk1
    have HK2 := Lib.hid hk2
    subst htm qd
    simp only [Exit.then, fq4, fq5, fq6, fq14, fq15, fq16, fq17, fq19, fq20, fq21]
    clear hk1 hk2 e1 e2 hF1 hF2 hz23 hmm htt hbz k1 k2 k3 hbw hle6 hr1 hr2 ho1 ho2 hp hk hle hf fq4 fq5 fq6 fq14 fq15 fq16 fq17 fq19 fq20 fq21 HCK HSZ HLB HB6 HP HS HD HE hidA hidB hrq hrq2 HCA2 hfa2 hi262 HA hs16
    have hro := HB.out.roll
    have hro2 := HB.out.roll2
    unfold rollO at hro hro2
    obtain ⟨⟨c0, c1, c2, c3, c4, c5⟩, -, -⟩ := row6 hro
    have d3 := HB.out.s1
    apply_assumption
    go_wp2_with (refine wpList_load_row (o := ⟨some 61, _, _, _, _, _⟩) rfl 28 _ rfl z rfl 28 _ (0, 0) _ HB.out.conf Tryz.underlying28 rfl hi26.out ?_; simp only [Act.put])
    refine (HC1.out _ (Below.refl _ _)).mono ?_
    rintro e w7 ⟨rfl, hb7⟩
    have hb8 := Below.self_trans hb7 ((Below.refl w7.heap.size w7).alloc (Nat.le_refl _) (.cells #[.int .i64 kk1, .string id, .bool false] 40))
    have hg1 := Lib.hid (heap_alloc_new w7 (.cells #[.int .i64 kk1, .string id, .bool false] 40))
    have HB8 := Lib.hid (HB.out.below hb8)
    have HX8 := Lib.hid hb8
    clear hb7 hb8 HB HC1 c0 c1 c2 c3 c4 c5 d3 hro hro2
    go_upto_region 7 with fail
    generalize w7.alloc (.cells #[.int .i64 kk1, .string id, .bool false] 40) = w8 at *
    generalize w7.heap.size = g1 at *
    have hro2 := HB8.out.roll2
    unfold rollO at hro2
    obtain ⟨⟨c0, c1, c2, c3, c4, c5⟩, -, -⟩ := row6 hro2
    have d3 := HB8.out.s2
    go_wp2_with (refine wpList_load_row (o := ⟨some 68, _, _, _, _, _⟩) rfl 28 _ rfl z rfl 28 _ (0, 0) _ HB8.out.conf Tryz.underlying28 rfl hi26.out ?_; simp only [Act.put])
    refine (HC2.out _ HX8.out).mono ?_
    rintro e w9 ⟨rfl, hb9⟩
    have hx := (Below.refl w9.heap.size w9).alloc (Nat.le_refl _) (.cells #[.int .i64 kk2, .string id, .bool false] 40)
    have hb10 := Below.self_trans hb9 hx
    have hg1 := Lib.hid (row_below hg1.out hb10)
    have hg2 := Lib.hid (heap_alloc_new w9 (.cells #[.int .i64 kk2, .string id, .bool false] 40))
    have HB10 := Lib.hid (HB8.out.below hb10)
    have HX10 := Lib.hid (Below.self_trans HX8.out hb10)
    clear hb9 hx hb10 HB8 HX8 HC2 c0 c1 c2 c3 c4 c5 d3 hro2
    go_upto_region 8 with fail
    generalize w9.alloc (.cells #[.int .i64 kk2, .string id, .bool false] 40) = w10 at *
    generalize w9.heap.size = g2 at *
    have hx0 : ∀ x : After w10, x.now.cell? ⟨z, 16, none⟩ = some vw := fun x => (cell_of_row x.now z 16 _ _ _ (HB10.out.below x.h).conf).trans hfa.out.2.2.1
    have hx1 : ∀ x : After w10, x.now.cell? ⟨z, 17, none⟩ = some (.int .i64 C.P.ms) := fun x => (cell_of_row x.now z 17 _ _ _ (HB10.out.below x.h).conf).trans hfa.out.2.2.2.1
    have hx2 : ∀ x : After w10, x.now.cell? ⟨z, 18, none⟩ = some (.int .i64 C.P.num) := fun x => (cell_of_row x.now z 18 _ _ _ (HB10.out.below x.h).conf).trans hfa.out.2.2.2.2.1
    have hx3 : ∀ x : After w10, x.now.cell? ⟨z, 19, none⟩ = some (.int .i64 C.P.den) := fun x => (cell_of_row x.now z 19 _ _ _ (HB10.out.below x.h).conf).trans hfa.out.2.2.2.2.2.1
    have hx4 : ∀ x : After w10, x.now.cell? ⟨z, 20, none⟩ = some (.int .i64 C.P.hold) := fun x => (cell_of_row x.now z 20 _ _ _ (HB10.out.below x.h).conf).trans hfa.out.2.2.2.2.2.2.1
    have hx5 : ∀ x : After w10, x.now.cell? ⟨z, 21, none⟩ = some (.int .i64 C.P.win) := fun x => (cell_of_row x.now z 21 _ _ _ (HB10.out.below x.h).conf).trans hfa.out.2.2.2.2.2.2.2
    have hy0 : ∀ x : After w10, x.now.cell? ⟨z + 1, 0, none⟩ = some (.int .i64 q1) := fun x => cell_of_row x.now (z + 1) 0 _ _ _ (HB10.out.below x.h).roll
    have hy1 : ∀ x : After w10, x.now.cell? ⟨z + 1, 1, none⟩ = some (.int .i64 q2) := fun x => cell_of_row x.now (z + 1) 1 _ _ _ (HB10.out.below x.h).roll
    have hy2 : ∀ x : After w10, x.now.cell? ⟨z + 1, 2, none⟩ = some (.int .i64 q3) := fun x => cell_of_row x.now (z + 1) 2 _ _ _ (HB10.out.below x.h).roll
    have hy3 : ∀ x : After w10, x.now.cell? ⟨z + 1, 3, none⟩ = some (.int .i64 q4) := fun x => cell_of_row x.now (z + 1) 3 _ _ _ (HB10.out.below x.h).roll
    have hy4 : ∀ x : After w10, x.now.cell? ⟨z + 1, 4, none⟩ = some (.int .i64 q5) := fun x => cell_of_row x.now (z + 1) 4 _ _ _ (HB10.out.below x.h).roll
    have hy5 : ∀ x : After w10, x.now.cell? ⟨z + 1, 5, none⟩ = some (.int .i64 q6) := fun x => cell_of_row x.now (z + 1) 5 _ _ _ (HB10.out.below x.h).roll
    have hw0 : ∀ x : After w10, x.now.cell? ⟨z2 + 1, 0, none⟩ = some (.int .i64 p1) := fun x => cell_of_row x.now (z2 + 1) 0 _ _ _ (HB10.out.below x.h).roll2
    have hw1 : ∀ x : After w10, x.now.cell? ⟨z2 + 1, 1, none⟩ = some (.int .i64 p2) := fun x => cell_of_row x.now (z2 + 1) 1 _ _ _ (HB10.out.below x.h).roll2
    have hw2 : ∀ x : After w10, x.now.cell? ⟨z2 + 1, 2, none⟩ = some (.int .i64 p3) := fun x => cell_of_row x.now (z2 + 1) 2 _ _ _ (HB10.out.below x.h).roll2
    have hw3 : ∀ x : After w10, x.now.cell? ⟨z2 + 1, 3, none⟩ = some (.int .i64 p4) := fun x => cell_of_row x.now (z2 + 1) 3 _ _ _ (HB10.out.below x.h).roll2
    have hw4 : ∀ x : After w10, x.now.cell? ⟨z2 + 1, 4, none⟩ = some (.int .i64 p5) := fun x => cell_of_row x.now (z2 + 1) 4 _ _ _ (HB10.out.below x.h).roll2
    have hw5 : ∀ x : After w10, x.now.cell? ⟨z2 + 1, 5, none⟩ = some (.int .i64 p6) := fun x => cell_of_row x.now (z2 + 1) 5 _ _ _ (HB10.out.below x.h).roll2
    have CW := Lib.hid (fun (x : After w10) a1 a2 a3 a4 a5 a6 => HW.out x.now (Below.self_trans HX10.out x.h) a1 a2 a3 a4 a5 a6)
    refine wp_region_below (by kernel_rfl) (by kernel_rfl) ?_
    repeat (go_big_quiet_step ((go_at_call 12; exact After.call (CW.out _ _ _ _ _ _ _))))
    refine wpQuiet_nil ?_
    rintro w11 ⟨x, rfl⟩
    have HB11 := Lib.hid (HB10.out.below x.h)
    have hg1 := row_below hg1.out x.h
    have hg2 := row_below hg2.out x.h
    have HX11 := Lib.hid (Below.self_trans HX10.out x.h)
    have hsl := Lib.hid (show CA[22]? = some (.string C.salt) by rw [HCA.out]; rfl)
    clear hx0 hx1 hx2 hx3 hx4 hx5 hy0 hy1 hy2 hy3 hy4 hy5 hw0 hw1 hw2 hw3 hw4 hw5 CW HW HB10 HX10
    generalize x.now = w11 at *
    generalize rollW q1 q2 C.P = V1 at *
    generalize rollW p1 p2 C.P = V2 at *
    obtain ⟨⟨k0, k1, k2⟩, -, -⟩ := row3 hg1
    obtain ⟨⟨l0, l1, l2⟩, -, -⟩ := row3 hg2
    have HG1 := Lib.hid hg1
    clear hg1 hg2
    go_upto_region 11 with fail
    have hz0 : ∀ x : After w11, x.now.cell? ⟨g1, 0, none⟩ = some (.int .i64 kk1) := fun x => x.keep k0
    have hz1 : ∀ x : After w11, x.now.cell? ⟨z, 22, none⟩ = some (.string C.salt) := fun x => (cell_of_row x.now z 22 _ _ _ (HB11.out.below x.h).conf).trans hsl.out
    have CO := Lib.hid (fun x : After w11 => HOF.out x.now)
    have CA' := Lib.hid (fun x : After w11 => HAW.out x.now (Below.self_trans HX11.out x.h))
    clear HOF HAW HX11 hsl HG1
    rcases Int.lt_trichotomy V1 V2 with hv | hv | hv
    · have hv1 : (V1 == V2) = false := by simp; omega
      have hv2 : ¬ V1 = V2 := by omega
      by_cases ha : bk < V1
      · have hb : bk < V2 := by omega
        obtain rfl : kk1 = 5 := HK1.out.trans (if_pos ha)
        obtain rfl : kk2 = 5 := HK2.out.trans (if_pos hb)
        clear HK1 HK2
        go_upto_region 13 with fail
        refine wp_region_below (by kernel_rfl) (by kernel_rfl) ?_
        repeat (go_big_quiet_step ((first
          | (go_at_call 13; exact After.call (CO.out _))
          | (go_at_call 8; exact After.call (CA'.out _)))))
        refine wpQuiet_nil ?_
        rintro w12 ⟨x, rfl⟩
        have HBE := Lib.hid (HB11.out.below x.h).hb
        clear hz0 hz1 CO CA'
        generalize x.now = w12 at *
        go_wp2
        go_ret
        exact ⟨rfl, HBE.out⟩
      · by_cases hb : bk < V2
        · skip
          obtain rfl : kk1 = 4 := HK1.out.trans (if_neg ha)
          obtain rfl : kk2 = 5 := HK2.out.trans (if_pos hb)
          clear HK1 HK2
          go_upto_region 13 with fail
          refine wp_region_below (by kernel_rfl) (by kernel_rfl) ?_
          repeat (go_big_quiet_step ((first
            | (go_at_call 13; exact After.call (CO.out _))
            | (go_at_call 8; exact After.call (CA'.out _)))))
          refine wpQuiet_nil ?_
          rintro w12 ⟨x, rfl⟩
          have HBE := Lib.hid (HB11.out.below x.h).hb
          clear hz0 hz1 CO CA'
          generalize x.now = w12 at *
          go_wp2
          go_ret
          exact ⟨rfl, HBE.out⟩
        · skip
          obtain rfl : kk1 = 4 := HK1.out.trans (if_neg ha)
          obtain rfl : kk2 = 4 := HK2.out.trans (if_neg hb)
          clear HK1 HK2
          go_upto_region 13 with fail
          refine wp_region_below (by kernel_rfl) (by kernel_rfl) ?_
          repeat (go_big_quiet_step ((first
            | (go_at_call 13; exact After.call (CO.out _))
            | (go_at_call 8; exact After.call (CA'.out _)))))
          refine wpQuiet_nil ?_
          rintro w12 ⟨x, rfl⟩
          have HBE := Lib.hid (HB11.out.below x.h).hb
          clear hz0 hz1 CO CA'
          generalize x.now = w12 at *
          go_wp2
          go_ret
          exact ⟨rfl, HBE.out⟩
    · subst hv
      by_cases ha : bk < V1
      · skip
        obtain rfl : kk1 = 5 := HK1.out.trans (if_pos ha)
        obtain rfl : kk2 = 5 := HK2.out.trans (if_pos ha)
        clear HK1 HK2
        go_upto_region 13 with fail
        refine wp_region_below (by kernel_rfl) (by kernel_rfl) ?_
        repeat (go_big_quiet_step ((first
          | (go_at_call 13; exact After.call (CO.out _))
          | (go_at_call 8; exact After.call (CA'.out _)))))
        refine wpQuiet_nil ?_
        rintro w12 ⟨x, rfl⟩
        have HBE := Lib.hid (HB11.out.below x.h).hb
        clear hz0 hz1 CO CA'
        generalize x.now = w12 at *
        go_wp2
        go_ret
        exact ⟨rfl, HBE.out⟩
      · skip
        obtain rfl : kk1 = 4 := HK1.out.trans (if_neg ha)
        obtain rfl : kk2 = 4 := HK2.out.trans (if_neg ha)
        clear HK1 HK2
        go_upto_region 13 with fail
        refine wp_region_below (by kernel_rfl) (by kernel_rfl) ?_
        repeat (go_big_quiet_step ((first
          | (go_at_call 13; exact After.call (CO.out _))
          | (go_at_call 8; exact After.call (CA'.out _)))))
        refine wpQuiet_nil ?_
        rintro w12 ⟨x, rfl⟩
        have HBE := Lib.hid (HB11.out.below x.h).hb
        clear hz0 hz1 CO CA'
        generalize x.now = w12 at *
        go_wp2
        go_ret
        exact ⟨rfl, HBE.out⟩
    · have hv1 : (V1 == V2) = false := by simp; omega
      have hv2 : ¬ V1 = V2 := by omega
      have hv3 : ¬ V1 < V2 := by omega
      by_cases hb : bk < V2
      · have ha : bk < V1 := by omega
        obtain rfl : kk1 = 5 := HK1.out.trans (if_pos ha)
        obtain rfl : kk2 = 5 := HK2.out.trans (if_pos hb)
        clear HK1 HK2
        go_upto_region 13 with fail
        refine wp_region_below (by kernel_rfl) (by kernel_rfl) ?_
        repeat (go_big_quiet_step ((first
          | (go_at_call 13; exact After.call (CO.out _))
          | (go_at_call 8; exact After.call (CA'.out _)))))
        refine wpQuiet_nil ?_
        rintro w12 ⟨x, rfl⟩
        have HBE := Lib.hid (HB11.out.below x.h).hb
        clear hz0 hz1 CO CA'
        generalize x.now = w12 at *
        go_wp2
        go_ret
        exact ⟨rfl, HBE.out⟩
      · by_cases ha : bk < V1
        · skip
          obtain rfl : kk1 = 5 := HK1.out.trans (if_pos ha)
          obtain rfl : kk2 = 4 := HK2.out.trans (if_neg hb)
          clear HK1 HK2
          go_upto_region 13 with fail
          refine wp_region_below (by kernel_rfl) (by kernel_rfl) ?_
          repeat (go_big_quiet_step ((first
            | (go_at_call 13; exact After.call (CO.out _))
            | (go_at_call 8; exact After.call (CA'.out _)))))
          refine wpQuiet_nil ?_
          rintro w12 ⟨x, rfl⟩
          have HBE := Lib.hid (HB11.out.below x.h).hb
          clear hz0 hz1 CO CA'
          generalize x.now = w12 at *
          go_wp2
          go_ret
          exact ⟨rfl, HBE.out⟩
        · skip
          obtain rfl : kk1 = 4 := HK1.out.trans (if_neg ha)
          obtain rfl : kk2 = 4 := HK2.out.trans (if_neg hb)
          clear HK1 HK2
          go_upto_region 13 with fail
          refine wp_region_below (by kernel_rfl) (by kernel_rfl) ?_
          repeat (go_big_quiet_step ((first
            | (go_at_call 13; exact After.call (CO.out _))
            | (go_at_call 8; exact After.call (CA'.out _)))))
          refine wpQuiet_nil ?_
          rintro w12 ⟨x, rfl⟩
          have HBE := Lib.hid (HB11.out.below x.h).hb
          clear hz0 hz1 CO CA'
          generalize x.now = w12 at *
          go_wp2
          go_ret
          exact ⟨rfl, HBE.out⟩
end Go.Proofs.YtfmokccoilgpmaaGreatDoor
