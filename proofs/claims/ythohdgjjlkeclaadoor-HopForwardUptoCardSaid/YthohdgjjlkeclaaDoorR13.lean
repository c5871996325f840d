/- Forward of the reference; the core of HopForward. -/
import Derived.Test.YthohdgjjlkeclaaDoorX13
import Derived.Test.YthohdgjjlkeclaaDoorSame
import Derived.Deep.RegionLaw
namespace Go.Own
set_option linter.unusedVariables false
open Go.RowKit
theorem step_append_rdb {P : Program} {ops : Array Oper} {o : Oper} {a : Act} {w : World} {K : Act → World → Prop} {Q : Exit → Act → World → Prop} {E : Prop} (hgd : o.guard = none) (s x : Operand) (t : TypeId)
    (ho : o.op = .call { callee := .builtin .append, args := #[s, x], argTypes := #[t, t] })
    (base : Nat) (hb : base ≤ w.heap.size)
    (e : TypeId) (z : Value) (size bytes : Nat) (ht : P.underlying t = some (.slice e)) (hinfo : (P.info? e).map (fun i => (i.zero, i.size, i.bytes)) = some (some z, size, bytes)) (hzs : z.cells.size = size) (hsz : 0 < size)
    (a0 : Option Addr) (n c0 : Nat) (xs : List Value) (hs : a.eval s = .slice a0 n c0) (hown : w.ownsRow base e size (.slice a0 n c0) n xs)
    (ao : Option Addr) (m c : Nat) (news : List Value) (hx : a.eval x = .slice ao m c) (hl : news.length = m * size) (hnone : ao = none → c = 0) (hmc : m ≤ c) (hr : RdC w ao news) (h1 : ∀ u ∈ news, u.oneCell' = true)
    (hbytes : (n + m) * bytes ≤ 140737488355328) (h63 : n + m ≤ maxLen)
    (hK : ∀ a' cap' w', w'.ownsRow base e size (.slice a' (n + m) cap') (n + m) (xs ++ news) → w.grownBy w' (blk a0) → (blk a' = blk a0 ∨ blk a' = some w.heap.size) →
      K (a.put o.dst (.slice a' (n + m) cap')) w') : if Region.wanted o (yielded ops a.tmps) = true then Oper.wp P o a w K Q else E := by
  have hw : Region.wanted o (yielded ops a.tmps) = true := by simp [Region.wanted, hgd]
  rw [if_pos hw]
  obtain ⟨i, hi, hz, hsize, hby⟩ := info_parts hinfo
  have fin : ∀ v' w', w'.ownsRow base e size v' (n + m) (xs ++ news) → w.grownBy w' (Value.slice a0 n c0).ownBlock → (v'.ownBlock = (Value.slice a0 n c0).ownBlock ∨ v'.ownBlock = some w.heap.size) → K (a.put o.dst v') w' := by
    intro v' w' h2 h3 h4
    obtain ⟨a', cap', rfl, -, -, -⟩ := owned_slice h2
    rw [ownBlock_slice, ownBlock_slice] at h4
    rw [ownBlock_slice] at h3
    exact hK a' cap' w' h2 h3 h4
  cases ao with
  | none =>
    obtain rfl := hnone rfl
    obtain rfl : m = 0 := by omega
    have hn : news = [] := List.eq_nil_of_length_eq_zero (by simpa using hl)
    subst hn
    have hrun := run_append_owned_none (P := P) w base t o.type e i size ht hi _ n xs hown
    unfold Oper.wp execOp
    simp only [ho, resolve, invoke, builtin, Sem.run_bind, Sem.run_pure, Result.andThen_ok, List.map_toArray, List.map_cons, List.map_nil, hs, hx, hrun]
    exact (fin _ _ (by simpa using hown) (World.grownBy.refl _ _) (Or.inl rfl))
  | some ad =>
    have hnews : ∀ j u, news[j]? = some u → w.cell? (ad.add j) = some u := by
      intro j u hu
      have hj := (List.getElem?_eq_some_iff.1 hu).1
      obtain ⟨b, off, had, hcell⟩ := hr j hj
      obtain rfl := Option.some.inj had
      rw [Addr.add_lit, hcell, ← hu, List.getElem?_eq_getElem hj]
    obtain ⟨v', w', hrun, h2, h3, -⟩ := run_append_own (P := P) w base t o.type e i z size bytes ht hi hz hsize hby hzs hsz _ n xs hown ad m c news hl hnews h1 h63 hbytes hb
    have h4 := append_where w base t o.type e i z size bytes ht hi hz hsize hby _ n xs hown ad m c news hl hnews h1 h63 hbytes hrun
    unfold Oper.wp execOp
    simp only [ho, resolve, invoke, builtin, Sem.run_bind, Sem.run_pure, Result.andThen_ok, List.map_toArray, List.map_cons, List.map_nil, hs, hx, hrun]
    exact (fin v' w' h2 h3 h4)
end Go.Own
namespace Go.Proofs.YthohdgjjlkeclaaDoor
open Go.RowKit Go.Own
set_option linter.unusedVariables false
set_option maxHeartbeats 2000000
set_option linter.unusedSimpArgs false

set_option maxRecDepth 100000 in
theorem refForward_calls (m t : ByteArray) (n : Int) (vf : Value) (x : List Fld) (fr : Bool) (vb : Value) (b : List UInt8) (peer : ByteArray) (w : World) (Hf : RdF w vf x) (Hb : RdB w vb b) (hx : fsize x ≤ 1500000) (hp : peer.size ≤ 1500000) (hbl : b.length ≤ 100000000) :
    Calls Tryd.prog 9 #[.agg #[.string m, .string t, .int .i64 n, vf, .bool fr, vb], .string peer] w fun e w' => (∃ v1, e = .returned (.agg #[.string m, .string t, .int .i64 1, v1, .bool fr, vb]) ∧ OwnF w.heap.size w' v1 (fwdS x peer fr b.length)) ∧ Below w.heap.size w w' := by
  have CS := Lib.hid (fun w Ha => refStrip_calls vf x w Ha (by omega))
  have hsz := strip_fsize x
  have CJ := Lib.hid (fun v w Ha => refJoined_calls v (stripS x) sXFF peer w Ha (by omega) (by decide) (by omega))
  obtain ⟨u1, u2⟩ := upF_size x peer hx hp
  have CV := Lib.hid (fun v w Ha => refVia_calls v (joinedS (stripS x) sXFF peer) w Ha (by omega))
  have hU : viaS (joinedS (stripS x) sXFF peer) = upF x peer := rfl
  rw [hU] at CV
  have HFS := Lib.hid (show fwdS x peer fr b.length = if fr then upF x peer ++ [lenF b.length] else upF x peer from rfl)
  have CD := Lib.hid (fun w => refDecimal_calls b.length (b.length : Int) w rfl (by omega))
  have HRB := Hb
  obtain ⟨ab, cb, rfl, -, -, -, -⟩ := Hb
  generalize fwdS x peer fr b.length = R at HFS ⊢
  generalize upF x peer = U at CV HFS u2
  generalize joinedS (stripS x) sXFF peer = J at CJ CV
  generalize stripS x = SX at CS CJ
  clear hU hsz u1
  have H2 := Lib.hid (heap_twoH w (.cells #[.string m, .string t, .int .i64 1, vf, .bool fr, .slice ab b.length cb] 26) (.cells #[.string .empty, .string .empty, .int .i64 0, .slice none 0 0, .bool false, .slice none 0 0] 26))
  have HB0 := ((Below.refl w.heap.size w).alloc (Nat.le_refl _) (.cells #[.string m, .string t, .int .i64 1, vf, .bool fr, .slice ab b.length cb] 26)).alloc (by simp) (.cells #[.string .empty, .string .empty, .int .i64 0, .slice none 0 0, .bool false, .slice none 0 0] 26)
  have hzz : ((w.alloc (.cells #[.string m, .string t, .int .i64 1, vf, .bool fr, .slice ab b.length cb] 26)).alloc (.cells #[.string .empty, .string .empty, .int .i64 0, .slice none 0 0, .bool false, .slice none 0 0] 26)).heap.size = w.heap.size + 2 := by simp
  go_enter Tryd.func9, Tryd.ntmps9
  go_wp2_with fail
  refine (CS.out _ (Hf.below HB0)).mono ?_
  rintro e w1 ⟨⟨v1, rfl, hown⟩, hb1⟩
  obtain ⟨a1, c1, rfl, -, -, -⟩ := owned_slice hown
  have G1 := hown.rd
  have HB1 := Below.self_trans HB0 hb1
  have R1 := row_below H2.out.1 hb1
  have R2 := row_below H2.out.2 hb1
  have HZ : w.heap.size + 2 ≤ w1.heap.size := by have := hb1.size; omega
  clear hown hb1 HB0 H2 hzz
  go_wp2_with fail
  refine (CJ.out _ _ G1).mono ?_
  rintro e w2 ⟨⟨v2, rfl, hown⟩, hb2⟩
  have G2 := hown.rd
  have HB2 := Below.self_trans HB1 hb2
  have R3 := row_below R1 hb2
  have R4 := row_below R2 hb2
  have HZ2 := Nat.le_trans HZ hb2.size
  clear hown hb2 HB1 R1 R2 HZ G1
  go_wp2_with fail
  refine (CV.out _ _ G2).mono ?_
  rintro e w3 ⟨⟨v3, rfl, hown⟩, hb3⟩
  obtain ⟨a3, c3, rfl, -, -, -⟩ := owned_slice hown
  have HB3 := Below.self_trans HB2 hb3
  have R5 := row_below R3 hb3
  have R6 := row_below R4 hb3
  have hown3 : OwnF (w.heap.size + 2) w3 (.slice a3 U.length c3) U := hown.base HZ2
  clear hown hb3 HB2 R3 R4 HZ2 G2 CS CJ CV
  have HF := Lib.hid (FwdA.start R5 R6 HB3 hown3)
  obtain ⟨⟨-, -, -, q3, -, -⟩, ⟨-, -, -, f3, -, -⟩, -⟩ := row6 R5
  clear R5 R6 HB3 hown3
  obtain ⟨k4, -, -, -, -, -⟩ := HF.out.cells
  go_upto_if 14 with fail
  clear k4
  generalize w3.setCell ⟨w.heap.size, 3, none⟩ (.slice a3 U.length c3) = w4 at HF ⊢
  have HBW := Lib.hid HRB
  clear HRB Hf
  go_cut [2, 4] (fun s2 s4 wx => s2 = .pointer (some ⟨w.heap.size, 0, none⟩) ∧ s4 = .pointer (some ⟨w.heap.size + 1, 0, none⟩) ∧ FwdA w w.heap.size m t 1 fr (.slice ab b.length cb) R wx)
  case first =>
    cases fr with
    | false =>
      have HR : R = U := HFS.out
      subst HR
      obtain ⟨k4, -, -, -, -, -⟩ := HF.out.cells
      go_wp2_with fail
      go_meet
      case rel => exact ⟨rfl, rfl, HF.out⟩
    | true =>
      have HR : R = U ++ [lenF b.length] := HFS.out
      subst HR
      obtain ⟨k4, -, -, -, -, -⟩ := HF.out.cells
      have HD := Lib.hid (HF.out.below ((Below.refl _ _).drew))
      obtain ⟨a0, c0, r1, -, -, hown⟩ := HD.out
      obtain ⟨⟨-, -, -, q3, -, q5⟩, ⟨-, -, -, f3, -, -⟩, -⟩ := row6 r1
      have hroom : (U.length + 1) * 32 ≤ 140737488355328 := by omega
      have hroom2 : U.length + 1 ≤ maxLen := by simp [maxLen]; omega
      have hlow : ∀ k, blk a0 = some k → w.heap.size + 2 ≤ k := fun k hk => (hown.lt k (by rw [ownBlock_slice]; exact hk)).1
      go_wp2_with fail
      go_region_law ((first
        | (refine step_append_oneb rfl (.tmp 16) (.tmp 22) 23 rfl (w.heap.size + 2) hsz8 41 (.agg #[.string .empty, .string .empty]) 2 32 Tryd.underlying23 info_fld rfl (by decide) a0 U.length c0 (fieldsV U) [.string ⟨#[67, 111, 110, 116, 101, 110, 116, 45, 76, 101, 110, 103, 116, 104]⟩, .string (bs (digs 10 b.length))] rfl (str2_one _ _) rfl hown8 rfl hroom hroom2 ?_; intro a1 c1 w9 hown9 hg9 hw9; obtain ⟨⟨v9, c9⟩, f9⟩ := H8.out.cell3 hg9 hlow)
        | (go_simp; go_at_call 24; refine (CD.out _).mono ?_; rintro e w8 ⟨rfl, hb8⟩; have H8 := Lib.hid (HD.out.below hb8); have hown8 := OwnF.below hown hb8; have hsz8 := H8.out.lt; have c8 := cell_below hb8 q3; have c8a : ∀ o : Obj, (w8.alloc o).cell? ⟨w.heap.size, 3, none⟩ = some (.slice a0 U.length c0) := (fun o => cell_below ((Below.refl _ _).alloc (Nat.le_refl _) o) c8))))
      all_goals
        apply_assumption
        go_meet
        case rel => exact ⟨rfl, rfl, H8.out.put hg9 hlow (OwnF.snoc (f := lenF b.length) hown9)⟩
  case rest =>
  clear HF HFS CD
  obtain ⟨rfl, rfl, a1, c1, r1, r2, hbw, hown⟩ := hcut
  obtain ⟨⟨c10, c11, c12, c13, c14, c15⟩, -, -⟩ := row6 r1
  obtain ⟨⟨d10, d11, d12, d13, d14, d15⟩, ⟨f10, f11, f12, f13, f14, f15⟩, -⟩ := row6 r2
  have R2 := Lib.hid r2
  have HO := Lib.hid hown
  have HB := Lib.hid hbw
  clear r1 r2 hbw hown
  go_wp2_with fail
  exact fin6g id R2.out (fun w2 c0 c1 c2 c3 c4 c5 => by simp [results, Tryd.results9, go_sem, c0, c1, c2, c3, c4, c5]) rfl fun w7 hg => ⟨⟨_, rfl, OwnF.base (own_src HO.out hg (by omega)) (by omega)⟩, below_src HB.out hg (by omega)⟩
theorem OwnF.two {B : Nat} {w : World} {v : Value} {x y : List Fld} (h : w.ownsRow B 41 2 v (x.length + y.length) (fieldsV x ++ fieldsV y)) : OwnF B w v (x ++ y) := by
  have e1 : (x ++ y).length = x.length + y.length := by simp
  have e2 : fieldsV (x ++ y) = fieldsV x ++ fieldsV y := by simp [fieldsV]
  unfold OwnF
  rw [e1, e2]; exact h
/-- what each operation of HopForward's last statement yields -/
def sp13 (FW : List Fld) (m t : ByteArray) (fr : Bool) (b : List UInt8) (R1 : Value) (peer : ByteArray) : Nat → Value → World → Prop
  | 0, v, _ => v = R1
  | 1, v, _ => v = .string peer
  | 2, v, w => ∃ v1 v2, v = .agg #[.string m, .string t, .int .i64 1, v1, .bool fr, v2] ∧ RdF w v1 FW ∧ RdB w v2 b
  | 3, v, _ => v = R1
  | 4, v, _ => v = .string peer
  | 5, v, w => ∃ v1 v2, v = .agg #[.string m, .string t, .int .i64 1, v1, .bool fr, v2] ∧ RdF w v1 FW ∧ RdB w v2 b
  | _, v, _ => v = .bool true
theorem sp13_mono {FW : List Fld} {m t : ByteArray} {fr : Bool} {b : List UInt8} {R1 : Value} {peer : ByteArray} (j : Nat) (v : Value) (x y : World) (h : Below x.heap.size x y) : sp13 FW m t fr b R1 peer j v x → sp13 FW m t fr b R1 peer j v y := by
  unfold sp13
  split
  all_goals first
    | exact id
    | exact fun ⟨v1, v2, h1, h2, h3⟩ => ⟨v1, v2, h1, RdF.below h2 h, RdB.below h3 h⟩
theorem of_drewH {w w1 : World} (h : Below w.drew.heap.size w.drew w1) : Below w.heap.size w w1 := ((Below.refl _ _).drew).trans h
/-- where HopForward stands once its request is made -/
def FwAt (w0 wx : World) : Prop :=
  ∃ m t n af cf x fr vb b, wx.heap[w0.heap.size + 1]? = some (.cells #[.string m, .string t, .int .i64 n, .slice af x.length cf, .bool fr, vb] 26) ∧ Below w0.heap.size w0 wx ∧ RdF wx (.slice af x.length cf) x ∧ RdB wx vb b ∧ fsize x ≤ 1500000 ∧ b.length ≤ 2000000
theorem src_newH (w : World) (a : Option Addr) (l : List Int) (cap : Nat) (h : RdC w a (intsV l)) (h3 : l.length ≤ cap) (h4 : cap ≤ maxLen) (h5 : a = none → cap = 0) (h8 : ∀ x ∈ l, In64 x) (n : Nat) (hn : n = w.heap.size) :
    Src (w.alloc (.cells #[.slice a l.length cap, .int .i64 0] 29)) n l := by
  subst hn; exact src_new w a l cap h h3 h4 h5 h8
theorem set6gH {w1 : World} {g : Nat} {x0 x1 x2 x3 x4 x5 : Value} {T : TypeId} (y0 y1 y2 y3 y4 y5 : Value) (h : w1.heap[g]? = some (.cells #[x0, x1, x2, x3, x4, x5] T)) :
    (((((((w1.setCell ⟨g, 0, none⟩ y0).setCell ⟨g, 1, none⟩ y1).setCell ⟨g, 2, none⟩ y2).setCell ⟨g, 3, none⟩ y3).setCell ⟨g, 4, none⟩ y4).setCell ⟨g, 5, none⟩ y5)).heap[g]? = some (.cells #[y0, y1, y2, y3, y4, y5] T) ∧
    w1.grownBy ((((((w1.setCell ⟨g, 0, none⟩ y0).setCell ⟨g, 1, none⟩ y1).setCell ⟨g, 2, none⟩ y2).setCell ⟨g, 3, none⟩ y3).setCell ⟨g, 4, none⟩ y4).setCell ⟨g, 5, none⟩ y5) (some g) :=
  ⟨(set6 (B := 0) (w := w1) y0 y1 y2 y3 y4 y5 h ⟨rfl, rfl, rfl, Nat.le_refl _, fun _ hk => absurd hk (Nat.not_lt_zero _)⟩ (Nat.zero_le _)).1,
    grownBy_trans (grownBy_trans (grownBy_trans (grownBy_trans (grownBy_trans (grown_set _ g 0 _) (grown_set _ g 1 _)) (grown_set _ g 2 _)) (grown_set _ g 3 _)) (grown_set _ g 4 _)) (grown_set _ g 5 _)⟩
/-- fields and bytes never share a block -/
theorem own_apart {w w' : World} {B B' : Nat} {af : Option Addr} {n cf : Nat} {xs : List Value} {v : Value} {b : List UInt8} (hf : w.ownsRow B 41 2 (.slice af n cf) n xs) (hb : OwnY B' w v b) (hg : w.grownBy w' (blk af)) : OwnY B' w' v b := by
  refine World.ownsRow.kept hb hg ?_
  cases hv : v.ownBlock with
  | none => exact Or.inl rfl
  | some k =>
    refine Or.inr fun e => ?_
    rcases hf.2 with ⟨h, -⟩ | ⟨g, c, cur, h, -, h3, -⟩
    · injection h with h1; subst h1; cases e
    · injection h with h1
      subst h1
      have hk : k = g := by injection e
      subst hk
      rcases hb.2 with ⟨h, -⟩ | ⟨g2, c2, cur2, h, -, h4, -⟩
      · subst h; cases hv
      · subst h
        have : g2 = k := by injection hv
        subst this
        rw [h3] at h4
        injection h4 with h4
        injection h4 with h5 h6
        exact absurd h6 (by decide)
theorem FwAt.put {w0 w8 w9 : World} {m t : ByteArray} {n : Int} {af a9 : Option Addr} {cf c9 : Nat} {x y : List Fld} {fr : Bool} {vb : Value} {b : List UInt8} (k8 : w8.heap[w0.heap.size + 1]? = some (.cells #[.string m, .string t, .int .i64 n, .slice af x.length cf, .bool fr, vb] 26)) (hB : Below w0.heap.size w0 w8)
    (hf : w8.ownsRow (w0.heap.size + 3) 41 2 (.slice af x.length cf) x.length (fieldsV x)) (hb : OwnY (w0.heap.size + 3) w8 vb b) (hg : w8.grownBy w9 (blk af)) (ho : w9.ownsRow (w0.heap.size + 3) 41 2 (.slice a9 (x.length + y.length) c9) (x.length + y.length) (fieldsV x ++ fieldsV y))
    (hx : ∀ f ∈ x, SmallF f) (hy : ∀ f ∈ y, SmallF f) (hxl : x.length ≤ 6) (hyl : y.length ≤ 10) (hbl : b.length ≤ 30) : FwAt w0 (w9.setCell ⟨w0.heap.size + 1, 3, none⟩ (.slice a9 (x.length + y.length) c9)) := by
  have hlow : ∀ k, blk af = some k → w0.heap.size + 3 ≤ k := fun k hk => (hf.lt k (by rw [ownBlock_slice]; exact hk)).1
  have k9 := (hg.block _ (Array.getElem?_eq_some_iff.1 k8).1 (by intro e; have := hlow _ e.symm; omega)).trans k8
  have hB9 : Below w0.heap.size w0 w9 := hB.grown hg hB.size fun k hk => by have := hlow k hk; omega
  have hgs := grown_set w9 (w0.heap.size + 1) 3 (.slice a9 (x.length + y.length) c9)
  have hof := own_src (OwnF.two ho) hgs (by omega)
  have hob := own_src (own_apart hf hb hg) hgs (by omega)
  have hl : (x ++ y).length = x.length + y.length := by simp
  refine ⟨m, t, n, a9, c9, x ++ y, fr, vb, b, ?_, below_src hB9 hgs (by omega), ?_, OwnY.rd hob, ?_, by omega⟩
  · rw [hl]; exact (heap_setCell_same w9 _ 3 _ _ _ k9).trans (by simp)
  · rw [hl]; exact OwnF.rd hof
  · have := small_fsize (x := x ++ y) (n := 16) (fun f hf => by rcases List.mem_append.1 hf with h | h; exact hx f h; exact hy f h) (by rw [hl]; omega)
    omega
theorem madeq_small {x : List Fld} (h : ∀ f ∈ x, MadeQ f) : ∀ f ∈ x, SmallF f := fun f hf => by have := h f hf; unfold MadeQ at this; unfold SmallF; omega

set_option maxRecDepth 100000 in
theorem hopForward_core (vl : Value) (l : List Int) (rm rt : ByteArray) (rn : Int) (vf : Value) (x : List Fld) (fr : Bool) (vb : Value) (b : List UInt8) (peer : ByteArray) (wild : Bool) (w : World) (hE : EnvP w)
    (Hl : RdI w vl l) (HF0 : RdF w vf x) (HB0 : RdB w vb b) (hx : fsize x ≤ 1500000) (hbl : b.length ≤ 2000000) (hp : peer.size ≤ 1500000) :
    Calls Tryd.prog 3 #[vl, .agg #[.string rm, .string rt, .int .i64 rn, vf, .bool fr, vb], .string peer, .bool wild] w fun e w' => e = .returned (.bool true) ∧ Below w.heap.size w w' := by
  have HL := Hl
  obtain ⟨⟨al, cl, rfl, h11, h12, h13, hc⟩, hin⟩ := Hl
  have PA := Lib.hid (fun w hE => awake13_calls w hE)
  have HF1 := HF0
  have HB1 := HB0
  obtain ⟨af, cf, rfl, -⟩ := HF0
  obtain ⟨ab, cb, rfl, -⟩ := HB0
  have HBW := ((Below.refl w.heap.size w).alloc (Nat.le_refl _) (.cells #[.string rm, .string rt, .int .i64 rn, .slice af x.length cf, .bool fr, .slice ab b.length cb] 26)).alloc (by simp) (.cells #[.string rm, .string rt, .int .i64 rn, .slice af x.length cf, .bool fr, .slice ab b.length cb] 26)
  have H2 := Lib.hid (heap_twoH w (.cells #[.string rm, .string rt, .int .i64 rn, .slice af x.length cf, .bool fr, .slice ab b.length cb] 26) (.cells #[.string rm, .string rt, .int .i64 rn, .slice af x.length cf, .bool fr, .slice ab b.length cb] 26))
  have HS := Lib.hid (src_newH ((w.alloc (.cells #[.string rm, .string rt, .int .i64 rn, .slice af x.length cf, .bool fr, .slice ab b.length cb] 26)).alloc (.cells #[.string rm, .string rt, .int .i64 rn, .slice af x.length cf, .bool fr, .slice ab b.length cb] 26)) al l cl (hc.below HBW) h11 h12 h13 hin (w.heap.size + 2) (by simp))
  clear hc hin h13
  go_enter Tryd.func3, Tryd.ntmps3
  go_upto_if 12 with fail
  go_cut [9] (fun s9 wx => s9 = .pointer (some ⟨w.heap.size + 1, 0, none⟩) ∧ FwAt w wx)
  case first =>
    cases wild with
    | true =>
      go_wp2_with fail
      go_meet
      case rel => exact ⟨rfl, rm, rt, rn, af, cf, x, fr, _, b, H2.out.2, HBW, RdF.below HF1 HBW, HB1.below HBW, hx, hbl⟩
    | false =>
      go_wp2_with fail
      refine (request_calls _ l _ HS.out).mono ?_
      rintro e w1 ⟨⟨m, t, n, vf1, x1, fr1, vb1, b1, rfl, hm, hof, hob⟩, hg, hs⟩
      have HMR := Lib.hid hm
      have HA := (Below.refl ((w.alloc (.cells #[.string rm, .string rt, .int .i64 rn, .slice af x.length cf, .bool fr, .slice ab b.length cb] 26)).alloc (.cells #[.string rm, .string rt, .int .i64 rn, .slice af x.length cf, .bool fr, .slice ab b.length cb] 26)).heap.size _).alloc (Nat.le_refl _) (.cells #[.slice al l.length cl, .int .i64 0] 29)
      have k1 := grown_at hg (row_below H2.out.2 HA) (by omega)
      have HB3 := below_src (Below.self_trans HBW HA) hg (by omega)
      have hof2 : OwnF (w.heap.size + 3) w1 vf1 x1 := OwnF.base hof (by simp)
      have hob2 : OwnY (w.heap.size + 3) w1 vb1 b1 := OwnY.base hob (by simp)
      obtain ⟨af1, cf1, rfl, -, -, -⟩ := owned_slice hof2
      obtain ⟨ab1, cb1, rfl, -, -, -⟩ := owned_slice hob2
      obtain ⟨⟨c0, c1, c2, c3, c4, c5⟩, ⟨f0, f1, f2, f3, f4, f5⟩, -⟩ := row6 k1
      have K1 := Lib.hid (set6gH (.string m) (.string t) (.int .i64 n) (.slice af1 x1.length cf1) (.bool fr1) (.slice ab1 b1.length cb1) k1)
      have hz1 : w.heap.size + 3 ≤ w1.heap.size := by have := hg.size; simp at this; omega
      clear k1 hg hs hm hof hob H2 HS HBW HA
      go_upto_region 4 with fail
      obtain ⟨k1, kg⟩ := K1.out
      have HB4 := below_src HB3 kg (by omega)
      have hof4 := own_src hof2 kg (by omega)
      have hob4 := own_src hob2 kg (by omega)
      clear K1 c0 c1 c2 c3 c4 c5 f0 f1 f2 f3 f4 f5 HB3 hof2 hob2
      have hszd0 := Nat.le_trans hz1 kg.size
      clear kg
      generalize (((((w1.setCell ⟨w.heap.size + 1, 0, none⟩ (.string m)).setCell ⟨w.heap.size + 1, 1, none⟩ (.string t)).setCell ⟨w.heap.size + 1, 2, none⟩ (.int .i64 n)).setCell ⟨w.heap.size + 1, 3, none⟩ (.slice af1 x1.length cf1)).setCell ⟨w.heap.size + 1, 4, none⟩ (.bool fr1)).setCell ⟨w.heap.size + 1, 5, none⟩ (.slice ab1 b1.length cb1) = w6 at k1 HB4 hof4 hob4 hszd0 ⊢
      have D := (Below.refl w6.heap.size w6).drew
      have k2 := row_below k1 D
      obtain ⟨⟨-, -, -, q3, -, -⟩, ⟨-, -, -, f3, -, -⟩, -⟩ := row6 k2
      have HLD := Lib.hid (HL.below (HB4.trans (D.mono HB4.size)))
      have hofd := own_below hof4 D
      have hobd := own_below hob4 D
      have HBD := HB4.trans (D.mono HB4.size)
      have hlow : ∀ k, blk af1 = some k → w.heap.size + 3 ≤ k := fun k hk => (hofd.lt k (by rw [ownBlock_slice]; exact hk)).1
      have hx6 : x1.length ≤ 6 := HMR.out.2.1.2.1
      have hszd : w.heap.size + 3 ≤ w6.drew.heap.size := hszd0
      clear k1 HB4 hof4 hob4 D
      go_region_law ((first
        | (refine step_append_rdb rfl (.tmp 18) (.tmp 20) 23 rfl (w.heap.size + 3) hsz8 41 (.agg #[.string .empty, .string .empty]) 2 32 Tryd.underlying23 info_fld rfl (by decide) af1 x1.length cf1 (fieldsV x1) rfl hown8 ay y.length cy (fieldsV y) rfl hly hy3 hy1 hy4 (fieldsV_one y) hroom hroom2 ?_; intro a9 c9 w9 hown9 hg9 hw9; obtain ⟨q9, f9⟩ := H8.out w9 hg9)
        | (go_simp; go_at_call 5; refine (made13_calls _ l _ HLD.out).mono ?_; rintro e w8 ⟨⟨vy, y, rfl, hy, hsm, hyl⟩, hb8⟩; obtain ⟨ay, cy, rfl, hy1, hy2, hy3, hy4⟩ := hy.rd; have hown8 := own_below hofd hb8; have hly : (fieldsV y).length = y.length * 2 := (by rw [fieldsV_length]); have hroom : (x1.length + y.length) * 32 ≤ 140737488355328 := (by omega); have hroom2 : x1.length + y.length ≤ maxLen := (by simp [maxLen]; omega); have c8 := cell_below hb8 q3; have k8 := row_below k2 hb8; have hsz8 : w.heap.size + 3 ≤ w8.heap.size := (Nat.le_trans hszd hb8.size); have H8 := Lib.hid (show ∀ w9, w8.grownBy w9 (blk af1) → w9.cell? ⟨w.heap.size + 1, 3, none⟩ = some (.slice af1 x1.length cf1) ∧ w9.frozen? ⟨w.heap.size + 1, 3, none⟩ = false from (fun w9 hg9 => (by have k9 := (hg9.block _ (Array.getElem?_eq_some_iff.1 k8).1 (by intro e; have := hlow _ e.symm; omega)).trans k8; obtain ⟨⟨-, -, -, q9, -, -⟩, ⟨-, -, -, f9, -, -⟩, -⟩ := row6 k9; exact ⟨q9, f9⟩))); have K8 := Lib.hid k8; have HB8 := Lib.hid (HBD.trans (hb8.mono HBD.size)); have HOB8 := Lib.hid (own_below hobd hb8); have HOF8 := Lib.hid hown8; have HSM := Lib.hid hsm; clear k8 hb8 hsm hy)))
      all_goals
        apply_assumption
        go_meet
        case rel => exact ⟨rfl, FwAt.put K8.out HB8.out HOF8.out HOB8.out hg9 hown9 (madeq_small HMR.out.2.1.1) HSM.out hx6 hyl HMR.out.2.2⟩
  case rest =>
  clear H2 HS HF1 HB1 HBW HL hx hbl
  obtain ⟨rfl, m, t, n, af, cf, x, fr, vb, b, k1, HB, Hf, Hb, hx, hbl⟩ := hcut
  have CF := Lib.hid (fun w hE Ha Hb => forward_calls m t n (.slice af x.length cf) x fr vb b peer w hE Ha Hb hx hp (by omega))
  have CR := Lib.hid (fun w Ha Hb => refForward_calls m t n (.slice af x.length cf) x fr vb b peer w Ha Hb hx hp (by omega))
  generalize fwdS x peer fr b.length = FW at CF CR
  have HVB := Lib.hid Hb
  obtain ⟨ab, cb, rfl, -⟩ := Hb
  obtain ⟨⟨c0, c1, c2, c3, c4, c5⟩, -, -⟩ := row6 k1
  have K1 := Lib.hid k1
  clear k1 hx hbl hp
  by_cases h40 : 40 < x.length
  · have h40i : (40 : Int) < (x.length : Int) := by omega
    clear CF CR
    go_wp2_with fail
    refine (PA.out _ (hE.below HB)).mono ?_
    rintro e w2 ⟨rfl, hb2⟩
    go_wp2
    go_ret
    exact ⟨rfl, Below.self_trans HB hb2⟩
  · have h40i : ¬ (40 : Int) < (x.length : Int) := by omega
    clear h40
    go_wp2_with fail
    generalize hR1 : (Value.agg #[.string m, .string t, .int .i64 n, .slice af x.length cf, .bool fr, .slice ab b.length cb]) = R1 at CF CR
    refine wp_region_spec_lit (Le := fun x y => Below x.heap.size x y) (Sp := sp13 FW m t fr b R1 peer) rfl (by kernel_rfl) (fun x y z h1 h2 => Below.self_trans h1 h2) sp13_mono (fun x => Below.refl _ _) ⟨?_, ?_, ?_, ?_, ?_, ?_, ?_, ?_, ?_, ?_, ?_, trivial⟩ ?_
    · refine stepOk_val fun a w' hle hk hp => ⟨rfl, R1, w', ?_, Below.refl _ _, rfl⟩
      have h5 := ev (kept_eval (s := 9) hk rfl)
      obtain ⟨⟨c0, c1, c2, c3, c4, c5⟩, -, -⟩ := row6 (row_below K1.out (of_drewH hle))
      clear hp hk hle
      rw [← hR1]
      simp at h5
      simp [execOp, h5, go_sem, c0, c1, c2, c3, c4, c5]
    · refine stepOk_val fun a w' hle hk hp => ⟨rfl, .string peer, w', ?_, Below.refl _ _, rfl⟩
      have h5 := ev (kept_eval (s := 2) hk rfl)
      clear hp hk hle
      simp at h5
      simp [execOp, h5, go_sem]
    · refine stepOk_call fun a w' hle hk hp => ⟨rfl, 8, #[R1, .string peer], ?_, ?_⟩
      · have h5 := ev (show a.eval (.tmp 28) = R1 from hp 0 _ rfl rfl)
        have h6 := ev (show a.eval (.tmp 29) = .string peer from hp 1 _ rfl rfl)
        clear hp hk hle
        simp [execOp, h5, h6, go_sem]
      · have HBc := of_drewH hle
        exact (CF.out _ (hE.below (Below.self_trans HB HBc)) (RdF.below Hf HBc) (HVB.out.below HBc)).mono fun e wn ⟨⟨v1, v2, he, ho, hy⟩, hb⟩ => ⟨_, he, hb, v1, v2, rfl, ho.rd, hy.rd⟩
    · refine stepOk_val fun a w' hle hk hp => ⟨rfl, R1, w', ?_, Below.refl _ _, rfl⟩
      have h5 := ev (kept_eval (s := 9) hk rfl)
      obtain ⟨⟨c0, c1, c2, c3, c4, c5⟩, -, -⟩ := row6 (row_below K1.out (of_drewH hle))
      clear hp hk hle
      rw [← hR1]
      simp at h5
      simp [execOp, h5, go_sem, c0, c1, c2, c3, c4, c5]
    · refine stepOk_val fun a w' hle hk hp => ⟨rfl, .string peer, w', ?_, Below.refl _ _, rfl⟩
      have h5 := ev (kept_eval (s := 2) hk rfl)
      clear hp hk hle
      simp at h5
      simp [execOp, h5, go_sem]
    · refine stepOk_call fun a w' hle hk hp => ⟨rfl, 9, #[R1, .string peer], ?_, ?_⟩
      · have h5 := ev (show a.eval (.tmp 31) = R1 from hp 3 _ rfl rfl)
        have h6 := ev (show a.eval (.tmp 32) = .string peer from hp 4 _ rfl rfl)
        clear hp hk hle
        simp [execOp, h5, h6, go_sem]
      · have HBc := of_drewH hle
        exact (CR.out _ (RdF.below Hf HBc) (HVB.out.below HBc)).mono fun e wn ⟨⟨v1, he, ho⟩, hb⟩ => ⟨_, he, hb, v1, _, rfl, ho.rd, RdB.below (HVB.out.below HBc) hb⟩
    · refine stepOk_call fun a w' hle hk hp => ?_
      obtain ⟨v1, v2, g1, g2, g3⟩ := hp 2 _ rfl rfl
      obtain ⟨v3, v4, g4, g5, g6⟩ := hp 5 _ rfl rfl
      have h5 := ev (show a.eval (.tmp 30) = _ from g1)
      have h6 := ev (show a.eval (.tmp 33) = _ from g4)
      refine ⟨rfl, 7, #[.agg #[.string m, .string t, .int .i64 1, v1, .bool fr, v2], .agg #[.string m, .string t, .int .i64 1, v3, .bool fr, v4]], ?_, ?_⟩
      · clear hp hk hle
        simp [execOp, h5, h6, go_sem]
      · exact (sameReq_calls m t 1 fr v1 v3 v2 v4 FW b w' g2 g5 g3 g6).mono fun e wn ⟨he, hb⟩ => ⟨_, he, hb, rfl⟩
    · refine stepOk_val fun a w' hle hk hp => ⟨rfl, .bool true, w', ?_, Below.refl _ _, rfl⟩
      have g0 := ev (show a.eval (.tmp 34) = .bool true from hp 6 _ rfl rfl)
      clear hp hk hle
      simp [execOp, go_sem, g0]
    · refine stepOk_call fun a w' hle hk hp => ⟨wanted_of rfl rfl (hp 7 _ rfl rfl), 6, #[], ?_, ?_⟩
      · clear hp hk hle
        simp [execOp, go_sem]
      · have HBc := of_drewH hle
        exact (PA.out _ (hE.below (Below.self_trans HB HBc))).mono fun e wn ⟨he, hb⟩ => ⟨_, he, hb, rfl⟩
    · refine stepOk_val fun a w' hle hk hp => ⟨rfl, .bool true, w', ?_, Below.refl _ _, rfl⟩
      have g0 := ev (show a.eval (.tmp 35) = .bool true from hp 7 _ rfl rfl)
      have g1 := ev (show a.eval (.tmp 36) = .bool true from hp 8 _ rfl rfl)
      clear hp hk hle
      simp [execOp, go_sem, g0, g1]
    · refine stepOk_val fun a w' hle hk hp => ⟨rfl, .bool true, w', ?_, Below.refl _ _, rfl⟩
      have g0 := ev (show a.eval (.tmp 37) = .bool true from hp 9 _ rfl rfl)
      clear hp hk hle
      simp [execOp, go_sem, g0]
    · intro a w' hle hk hp
      have h8 : a.tmps.getD 8 undef = .bool true := hp 10 _ rfl
      have HBc := of_drewH hle
      have hd : a.defers = [] := hk.1
      have hfin : bodyPost Tryd.prog Tryd.f3 (fun e w'' => e = .returned (.bool true) ∧ Below w.heap.size w w'') .ret a w' := bodyPost_ret ((results_tmp rfl _ _ _).trans (by rw [h8])) hd ⟨rfl, Below.self_trans HB HBc⟩
      clear hp hk hle h8
      simp only [Exit.then]
      apply_assumption
      go_wp2
      exact hfin
end Go.Proofs.YthohdgjjlkeclaaDoor
