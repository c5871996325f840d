/- Forward of package hop and of its reference. -/
import Derived.Test.YthohdgjjlkeclaaDoorHopJ
import Derived.Test.YthohdgjjlkeclaaDoorConB
import Derived.Test.YthohdgjjlkeclaaDoorDec
import Derived.Test.YthohdgjjlkeclaaDoorSrcR
import Derived.Lib.LazyBuf
namespace Go.Own
open Go.Proofs.YthohdgjjlkeclaaDoor
def sLen : ByteArray := ⟨#[67, 111, 110, 116, 101, 110, 116, 45, 76, 101, 110, 103, 116, 104]⟩
def lenF (k : Nat) : Fld := ⟨sLen, bs (digs 10 k)⟩
/-- the fields of a request that is sent to an upstream server -/
def upF (l : List Fld) (peer : ByteArray) : List Fld := viaS (joinedS (stripS l) sXFF peer)
def fwdS (l : List Fld) (peer : ByteArray) (fr : Bool) (k : Nat) : List Fld := if fr then upF l peer ++ [lenF k] else upF l peer
theorem strip_fsize (l : List Fld) : fsize (stripS l) ≤ fsize l := fsize_without _ _
theorem upF_size (l : List Fld) (peer : ByteArray) (h1 : fsize l ≤ 1500000) (h2 : peer.size ≤ 1500000) : fsize (joinedS (stripS l) sXFF peer) ≤ 8000000 ∧ (upF l peer).length ≤ 100000000 := by
  have q1 := strip_fsize l
  have q2 := joined_fsize (stripS l) sXFF peer
  have q3 := joined_fsize (joinedS (stripS l) sXFF peer) sVia sSelf
  have e1 : sXFF.size = 15 := rfl
  have e2 : sVia.size = 3 := rfl
  have e3 : sSelf.size = 10 := rfl
  have q4 := fsize_length (upF l peer)
  have e4 : fsize (upF l peer) = fsize (joinedS (joinedS (stripS l) sXFF peer) sVia sSelf) := rfl
  omega
end Go.Own
namespace Go.Proofs.YthohdgjjlkeclaaDoor
open Go.RowKit Go.Own
set_option linter.unusedVariables false
set_option maxHeartbeats 2000000

theorem eql_nilB (w : World) (a : Option Addr) (l c : Nat) : (binOp .eql 24 (.slice a l c) (.slice none 0 0)).run Tryd.prog w = .ok (.bool a.isNone) w := Go.run_eql_slice_nil w _ _ a l c Tryd.underlying24
attribute [local go_sem] eql_nilB

set_option maxRecDepth 100000 in
theorem cloneY_calls (va : Value) (b : List UInt8) (w : World) (H : RdB w va b) (hl : b.length ≤ 100000000000) :
    Calls Tryd.prog 20 #[va] w fun e w' => (∃ v, e = .returned v ∧ OwnY w.heap.size w' v b) ∧ Below w.heap.size w w' := by
  obtain ⟨a, cap, rfl, h1, h2, h3, hc⟩ := H
  have hlb := lenB b
  have hone := bytesV_one b
  cases a with
  | none =>
    have hn : b = [] := by
      have := h3 rfl
      exact List.eq_nil_of_length_eq_zero (by omega)
    subst hn
    obtain rfl : cap = 0 := h3 rfl
    go_enter Tryd.func20, Tryd.ntmps20
    go_wp2
    go_ret
    exact ⟨⟨_, rfl, World.ownsRow_nil _ _ _ _⟩, Below.refl _ _⟩
  | some p =>
    have HB1 := (Below.refl w.heap.size w).alloc (Nat.le_refl _) (.cells #[] 5)
    have hO : (w.alloc (.cells #[] 5)).ownsRow w.heap.size 5 1 (.slice (some ⟨w.heap.size, 0, none⟩) 0 0) 0 [] := World.ownsRow_lit w #[] 0 (Nat.le_refl _) (by simp [maxLen]) rfl
    have hrd := hc.below HB1
    go_enter Tryd.func20, Tryd.ntmps20
    go_wp2_with (at_builtin; refine wpList_append_rd rfl (.tmp 5) (.tmp 6) 24 rfl w HB1 5 (.int .u8 0) 1 1 Tryd.underlying24 info_u8 rfl (by decide) (some ⟨w.heap.size, 0, none⟩) 0 0 [] rfl hO (some p) b.length cap (bytesV b) rfl hlb (fun h => by cases h) h1 hrd hone (by omega) (by simp [maxLen]; omega) ?_; intro a3 c3 w3 hb3 hown3 hg3 hw3)
    have H4 : OwnY w.heap.size w3 (.slice a3 b.length c3) b := by
      rw [OwnY]; simpa using hown3
    go_ret
    exact ⟨⟨_, rfl, H4⟩, hb3⟩

/-- where Forward stands: block g has the request, the next one the result -/
def FwdA (w0 : World) (g : Nat) (m t : ByteArray) (n : Int) (fr : Bool) (vb : Value) (x : List Fld) (w : World) : Prop :=
  ∃ a0 c0, w.heap[g]? = some (.cells #[.string m, .string t, .int .i64 n, .slice a0 x.length c0, .bool fr, vb] 26) ∧
    w.heap[g + 1]? = some (.cells #[.string .empty, .string .empty, .int .i64 0, .slice none 0 0, .bool false, .slice none 0 0] 26) ∧
    Below g w0 w ∧ OwnF (g + 2) w (.slice a0 x.length c0) x
theorem FwdA.below {w0 w w' : World} {g : Nat} {m t : ByteArray} {n : Int} {fr : Bool} {vb : Value} {x : List Fld} (h : FwdA w0 g m t n fr vb x w) (hb : Below w.heap.size w w') : FwdA w0 g m t n fr vb x w' := by
  obtain ⟨a0, c0, h1, h2, h3, h4⟩ := h
  exact ⟨a0, c0, row_below h1 hb, row_below h2 hb, h3.trans (hb.mono (Nat.le_of_lt (Array.getElem?_eq_some_iff.1 h1).1)), h4.below hb⟩
/-- the fields are stored -/
theorem FwdA.put {w0 w w' : World} {g : Nat} {m t : ByteArray} {n : Int} {fr : Bool} {vb : Value} {x y : List Fld} {r2 : Option Nat} {v : Value} (h : FwdA w0 g m t n fr vb x w) (hgr : w.grownBy w' r2) (hr : ∀ k, r2 = some k → g + 2 ≤ k) (hown : OwnF (g + 2) w' v y) : FwdA w0 g m t n fr vb y (w'.setCell ⟨g, 3, none⟩ v) := by
  obtain ⟨a0, c0, h1, h2, h3, h4⟩ := h
  obtain ⟨a1, c1, rfl, -, -, -⟩ := owned_slice hown
  have k1 := (hgr.block g (Array.getElem?_eq_some_iff.1 h1).1 (by intro e; have := hr g e.symm; omega)).trans h1
  have k2 := (hgr.block _ (Array.getElem?_eq_some_iff.1 h2).1 (by intro e; have := hr _ e.symm; omega)).trans h2
  have hz : g ≤ w.heap.size := Nat.le_of_lt (Array.getElem?_eq_some_iff.1 h1).1
  have hz2 : g ≤ w'.heap.size := Nat.le_of_lt (Array.getElem?_eq_some_iff.1 k1).1
  have k3 : Below g w0 w' := h3.grown hgr hz fun k hk => by have := hr k hk; omega
  exact ⟨a1, c1, (heap_setCell_same w' g 3 _ _ _ k1).trans (by simp), (heap_setCell_other w' ⟨g, 3, none⟩ (g + 1) _ (by simp)).trans k2, k3.grown (grown_set w' g 3 _) hz2 (fun k hk => by have := Option.some.inj hk; omega), own_src hown (grown_set w' g 3 _) (by omega)⟩
theorem FwdA.bel {w0 w : World} {g : Nat} {m t : ByteArray} {n : Int} {fr : Bool} {vb : Value} {x : List Fld} (h : FwdA w0 g m t n fr vb x w) : Below g w0 w := by
  obtain ⟨a0, c0, h1, h2, h3, h4⟩ := h; exact h3
theorem FwdA.lt {w0 w : World} {g : Nat} {m t : ByteArray} {n : Int} {fr : Bool} {vb : Value} {x : List Fld} (h : FwdA w0 g m t n fr vb x w) : g + 2 ≤ w.heap.size := by
  obtain ⟨a0, c0, h1, h2, h3, h4⟩ := h; exact (Array.getElem?_eq_some_iff.1 h2).1
theorem FwdA.cells {w0 w : World} {g : Nat} {m t : ByteArray} {n : Int} {fr : Bool} {vb : Value} {x : List Fld} (h : FwdA w0 g m t n fr vb x w) : w.cell? ⟨g, 4, none⟩ = some (.bool fr) ∧ w.cell? ⟨g, 5, none⟩ = some vb ∧ w.frozen? ⟨g, 3, none⟩ = false ∧ w.frozen? ⟨g, 2, none⟩ = false ∧ w.frozen? ⟨g, 5, none⟩ = false ∧ (∃ u, w.cell? ⟨g, 2, none⟩ = some u) := by
  obtain ⟨a0, c0, h1, h2, h3, h4⟩ := h
  obtain ⟨⟨k0, k1, k2, k3, k4, k5⟩, ⟨f0, f1, f2, f3, f4, f5⟩, -⟩ := row6 h1
  exact ⟨k4, k5, f3, f2, f5, _, k2⟩
theorem FwdA.cell3 {w0 w w' : World} {g : Nat} {m t : ByteArray} {n : Int} {fr : Bool} {vb : Value} {x : List Fld} {r2 : Option Nat} (h : FwdA w0 g m t n fr vb x w) (hgr : w.grownBy w' r2) (hr : ∀ k, r2 = some k → g + 2 ≤ k) : (∃ u, w'.cell? ⟨g, 3, none⟩ = some u) ∧ w'.frozen? ⟨g, 3, none⟩ = false := by
  obtain ⟨a0, c0, h1, h2, h3, h4⟩ := h
  have k1 := (hgr.block g (Array.getElem?_eq_some_iff.1 h1).1 (by intro e; have := hr g e.symm; omega)).trans h1
  obtain ⟨⟨_, _, _, k3, _, _⟩, ⟨_, _, _, f3, _, _⟩, -⟩ := row6 k1
  exact ⟨⟨_, k3⟩, f3⟩

theorem FwdA.start {w w3 : World} {m t : ByteArray} {n : Int} {fr : Bool} {vf vb v : Value} {U : List Fld} (h1 : w3.heap[w.heap.size]? = some (.cells #[.string m, .string t, .int .i64 n, vf, .bool fr, vb] 26)) (h2 : w3.heap[w.heap.size + 1]? = some (.cells #[.string .empty, .string .empty, .int .i64 0, .slice none 0 0, .bool false, .slice none 0 0] 26)) (hb : Below w.heap.size w w3) (hown : OwnF (w.heap.size + 2) w3 v U) : FwdA w w.heap.size m t n fr vb U (w3.setCell ⟨w.heap.size, 3, none⟩ v) := by
  obtain ⟨a1, c1, rfl, -, -, -⟩ := owned_slice hown
  exact ⟨a1, c1, (heap_setCell_same w3 w.heap.size 3 _ _ _ h1).trans (by simp), (heap_setCell_other w3 ⟨w.heap.size, 3, none⟩ (w.heap.size + 1) _ (by simp)).trans h2, hb.grown (grown_set w3 w.heap.size 3 _) hb.size (fun k hk => by have := Option.some.inj hk; omega), own_src hown (grown_set w3 w.heap.size 3 _) (by omega)⟩
theorem heap_twoH (w : World) (A B : Obj) : ((w.alloc A).alloc B).heap[w.heap.size]? = some A ∧ ((w.alloc A).alloc B).heap[w.heap.size + 1]? = some B := by
  refine ⟨?_, by have := heap_alloc_new (w.alloc A) B; rwa [World.size_alloc] at this⟩
  exact ((Below.refl _ (w.alloc A)).alloc (Nat.le_refl _) B).block _ (by simp) |>.trans (heap_alloc_new w A)

set_option maxRecDepth 100000 in
theorem forward_calls (m t : ByteArray) (n : Int) (vf : Value) (x : List Fld) (fr : Bool) (vb : Value) (b : List UInt8) (peer : ByteArray) (w : World) (hE : EnvP w) (Hf : RdF w vf x) (Hb : RdB w vb b) (hx : fsize x ≤ 1500000) (hp : peer.size ≤ 1500000) (hbl : b.length ≤ 100000000) :
    Calls Tryd.prog 8 #[.agg #[.string m, .string t, .int .i64 n, vf, .bool fr, vb], .string peer] w fun e w' => (∃ v1 v2, e = .returned (.agg #[.string m, .string t, .int .i64 1, v1, .bool fr, v2]) ∧ OwnF w.heap.size w' v1 (fwdS x peer fr b.length) ∧ OwnY w.heap.size w' v2 b) ∧ Below w.heap.size w w' := by
  have CS := Lib.hid (fun w hE Ha => strip_calls vf x w hE Ha (by omega))
  have hsz := strip_fsize x
  have CJ := Lib.hid (fun v w hE Ha => joined_calls v (stripS x) sXFF peer w hE Ha (by omega) (by decide) (by omega))
  obtain ⟨u1, u2⟩ := upF_size x peer hx hp
  have CV := Lib.hid (fun v w hE Ha => via_calls v (joinedS (stripS x) sXFF peer) w hE Ha (by omega))
  have hU : viaS (joinedS (stripS x) sXFF peer) = upF x peer := rfl
  rw [hU] at CV
  have HFS := Lib.hid (show fwdS x peer fr b.length = if fr then upF x peer ++ [lenF b.length] else upF x peer from rfl)
  have CD := Lib.hid (fun w hE => decimal_calls b.length (b.length : Int) w hE rfl (by omega))
  have HRB := Hb
  obtain ⟨ab, cb, rfl, -, -, -, -⟩ := Hb
  generalize fwdS x peer fr b.length = R at HFS ⊢
  generalize upF x peer = U at CV HFS u2
  generalize joinedS (stripS x) sXFF peer = J at CJ CV
  generalize stripS x = SX at CS CJ
  clear hU hsz u1
  have H2 := Lib.hid (heap_twoH w (.cells #[.string m, .string t, .int .i64 n, vf, .bool fr, .slice ab b.length cb] 26) (.cells #[.string .empty, .string .empty, .int .i64 0, .slice none 0 0, .bool false, .slice none 0 0] 26))
  have HB0 := ((Below.refl w.heap.size w).alloc (Nat.le_refl _) (.cells #[.string m, .string t, .int .i64 n, vf, .bool fr, .slice ab b.length cb] 26)).alloc (by simp) (.cells #[.string .empty, .string .empty, .int .i64 0, .slice none 0 0, .bool false, .slice none 0 0] 26)
  go_enter Tryd.func8, Tryd.ntmps8
  go_wp2_with fail
  refine (CS.out _ (hE.below HB0).env (Hf.below HB0)).mono ?_
  rintro e w1 ⟨⟨v1, rfl, hown⟩, hb1⟩
  obtain ⟨a1, c1, rfl, -, -, -⟩ := owned_slice hown
  have G1 := hown.rd
  have HB1 := Below.self_trans HB0 hb1
  have R1 := row_below H2.out.1 hb1
  have R2 := row_below H2.out.2 hb1
  have HZ : w.heap.size + 2 ≤ w1.heap.size := by have := hb1.size; simp at this; omega
  clear hown hb1 HB0 H2
  go_wp2_with fail
  refine (CJ.out _ _ (hE.below HB1).env G1).mono ?_
  rintro e w2 ⟨⟨v2, rfl, hown⟩, hb2⟩
  have G2 := hown.rd
  have HB2 := Below.self_trans HB1 hb2
  have R3 := row_below R1 hb2
  have R4 := row_below R2 hb2
  have HZ2 := Nat.le_trans HZ hb2.size
  clear hown hb2 HB1 R1 R2 HZ G1
  go_wp2_with fail
  refine (CV.out _ _ (hE.below HB2).env G2).mono ?_
  rintro e w3 ⟨⟨v3, rfl, hown⟩, hb3⟩
  obtain ⟨a3, c3, rfl, -, -, -⟩ := owned_slice hown
  have HB3 := Below.self_trans HB2 hb3
  have R5 := row_below R3 hb3
  have R6 := row_below R4 hb3
  have hown3 : OwnF (w.heap.size + 2) w3 (.slice a3 U.length c3) U := hown.base HZ2
  clear hown hb3 HB2 R3 R4 HZ2 G2 CS CJ CV
  have HF := Lib.hid (FwdA.start R5 R6 HB3 hown3)
  obtain ⟨⟨-, -, -, q3, -, -⟩, ⟨-, -, -, f3, -, -⟩, -⟩ := row6 R5
  clear R5 R6 HB3 hown3
  obtain ⟨k4, -, -, -, -, -⟩ := HF.out.cells
  go_upto_if 13 with fail
  clear k4
  generalize w3.setCell ⟨w.heap.size, 3, none⟩ (.slice a3 U.length c3) = w4 at HF ⊢
  have HBW := Lib.hid HRB
  clear HRB Hf
  go_cut [2, 4] (fun s2 s4 wx => s2 = .pointer (some ⟨w.heap.size, 0, none⟩) ∧ s4 = .pointer (some ⟨w.heap.size + 1, 0, none⟩) ∧ FwdA w w.heap.size m t n fr (.slice ab b.length cb) R wx)
  case first =>
    cases fr with
    | false =>
      have HR : R = U := HFS.out
      subst HR
      obtain ⟨k4, -, -, -, -, -⟩ := HF.out.cells
      go_wp2_with fail
      go_meet
      case rel => exact ⟨rfl, rfl, HF.out⟩
    | true =>
      have HR : R = U ++ [lenF b.length] := HFS.out
      subst HR
      obtain ⟨k4, -, -, -, -, -⟩ := HF.out.cells
      have HD := Lib.hid (HF.out.below ((Below.refl _ _).drew))
      have HEW := Lib.hid (hE.below HD.out.bel)
      obtain ⟨a0, c0, r1, -, -, hown⟩ := HD.out
      obtain ⟨⟨-, -, -, q3, -, q5⟩, ⟨-, -, -, f3, -, -⟩, -⟩ := row6 r1
      have hroom : (U.length + 1) * 32 ≤ 140737488355328 := by omega
      have hroom2 : U.length + 1 ≤ maxLen := by simp [maxLen]; omega
      have hlow : ∀ k, blk a0 = some k → w.heap.size + 2 ≤ k := fun k hk => (hown.lt k (by rw [ownBlock_slice]; exact hk)).1
      go_wp2_with fail
      go_region_law ((first
        | (refine step_append_oneb rfl (.tmp 15) (.tmp 21) 23 rfl (w.heap.size + 2) hsz8 41 (.agg #[.string .empty, .string .empty]) 2 32 Tryd.underlying23 info_fld rfl (by decide) a0 U.length c0 (fieldsV U) [.string ⟨#[67, 111, 110, 116, 101, 110, 116, 45, 76, 101, 110, 103, 116, 104]⟩, .string (bs (digs 10 b.length))] rfl (str2_one _ _) rfl hown8 rfl hroom hroom2 ?_; intro a1 c1 w9 hown9 hg9 hw9; obtain ⟨⟨v9, c9⟩, f9⟩ := H8.out.cell3 hg9 hlow)
        | (go_simp; go_at_call 19; refine (CD.out _ HEW.out).mono ?_; rintro e w8 ⟨rfl, hb8⟩; have H8 := Lib.hid (HD.out.below hb8); have hown8 := OwnF.below hown hb8; have hsz8 := H8.out.lt; have c8 := cell_below hb8 q3; have c8a : ∀ o : Obj, (w8.alloc o).cell? ⟨w.heap.size, 3, none⟩ = some (.slice a0 U.length c0) := (fun o => cell_below ((Below.refl _ _).alloc (Nat.le_refl _) o) c8))))
      all_goals
        apply_assumption
        go_meet
        case rel => exact ⟨rfl, rfl, H8.out.put hg9 hlow (OwnF.snoc (f := lenF b.length) hown9)⟩
  case rest =>
  clear HF HFS CD
  obtain ⟨rfl, rfl, HF⟩ := hcut
  obtain ⟨-, k5, -, -, -, -⟩ := HF.cells
  have HA := Lib.hid HF
  have HRB := HBW.out.below HF.bel
  have hz := HF.lt
  clear HF HBW
  go_wp2_with fail
  refine (cloneY_calls _ b _ HRB (by omega)).mono ?_
  rintro e w5 ⟨⟨v5, rfl, hoy⟩, hb5⟩
  obtain ⟨a5, c5, rfl, -, -, -⟩ := owned_slice hoy
  have H5 := HA.out.below hb5
  obtain ⟨a0, c0, r1, r2, hbw, hown⟩ := H5
  have hoy2 : OwnY (w.heap.size + 2) w5 (.slice a5 b.length c5) b := hoy.base hz
  have e1 : (w5.setCell ⟨w.heap.size, 2, none⟩ (.int .i64 1)).heap[w.heap.size]? = some (.cells #[.string m, .string t, .int .i64 1, .slice a0 R.length c0, .bool fr, .slice ab b.length cb] 26) := (heap_setCell_same w5 w.heap.size 2 _ _ _ r1).trans (by simp)
  have e2 : ((w5.setCell ⟨w.heap.size, 2, none⟩ (.int .i64 1)).setCell ⟨w.heap.size, 5, none⟩ (.slice a5 b.length c5)).heap[w.heap.size]? = some (.cells #[.string m, .string t, .int .i64 1, .slice a0 R.length c0, .bool fr, .slice a5 b.length c5] 26) := (heap_setCell_same _ w.heap.size 5 _ _ _ e1).trans (by simp)
  have g1 := grown_set w5 w.heap.size 2 (.int .i64 1)
  have g2 := grownBy_trans g1 (grown_set (w5.setCell ⟨w.heap.size, 2, none⟩ (.int .i64 1)) w.heap.size 5 (.slice a5 b.length c5))
  have e3 := (g2.block _ (Array.getElem?_eq_some_iff.1 r2).1 (by simp)).trans r2
  obtain ⟨⟨-, -, q2, -, -, q5⟩, ⟨-, -, f2, -, -, f5⟩, -⟩ := row6 r1
  obtain ⟨⟨-, -, -, -, -, q6⟩, ⟨-, -, -, -, -, f6⟩, -⟩ := row6 e1
  have HW := Lib.hid (show FwdA w w.heap.size m t 1 fr (.slice a5 b.length c5) R _ ∧ OwnY (w.heap.size + 2) _ (.slice a5 b.length c5) b from ⟨⟨a0, c0, e2, e3, hbw.grown g2 (Nat.le_of_lt (Array.getElem?_eq_some_iff.1 r1).1) (fun k hk => by have := Option.some.inj hk; omega), own_src hown g2 (by omega)⟩, own_src hoy2 g2 (by omega)⟩)
  clear HA hoy hb5 hz HRB k5 r1 r2 hbw hown hoy2 e1 e2 g1 g2 e3
  go_upto_region 5 with fail
  generalize (w5.setCell ⟨w.heap.size, 2, none⟩ (.int .i64 1)).setCell ⟨w.heap.size, 5, none⟩ (.slice a5 b.length c5) = w6 at HW ⊢
  clear q2 q5 f2 f5 q6 f6
  obtain ⟨⟨a1, c1, r1, r2, hbw, hown⟩, hoy⟩ := HW.out
  obtain ⟨⟨c10, c11, c12, c13, c14, c15⟩, -, -⟩ := row6 r1
  obtain ⟨⟨d10, d11, d12, d13, d14, d15⟩, ⟨f10, f11, f12, f13, f14, f15⟩, -⟩ := row6 r2
  have R2 := Lib.hid r2
  have HO := Lib.hid hown
  have HY := Lib.hid hoy
  have HB := Lib.hid hbw
  clear r1 r2 hbw hown hoy HW
  go_wp2_with fail
  exact fin6g id R2.out (fun w2 c0 c1 c2 c3 c4 c5 => by simp [results, Tryd.results8, go_sem, c0, c1, c2, c3, c4, c5]) rfl fun w7 hg => ⟨⟨_, _, rfl, OwnF.base (own_src HO.out hg (by omega)) (by omega), OwnY.base (own_src HY.out hg (by omega)) (by omega)⟩, below_src HB.out hg (by omega)⟩
end Go.Proofs.YthohdgjjlkeclaaDoor
