/- made and awake of canarylaw13, and the core of HopStrip. -/
import Derived.Test.YthohdgjjlkeclaaDoorHopW
import Derived.Deep.DeepCutAuto
import Derived.Deep.CutBlock
namespace Go.Own
open Go.Proofs.YthohdgjjlkeclaaDoor
def fld13a : List Fld := [⟨sConn, ⟨#[99, 108, 111, 115, 101, 44, 32, 88, 45, 65]⟩⟩, ⟨⟨#[88, 45, 65]⟩, ⟨#[49]⟩⟩, ⟨⟨#[88, 45, 66]⟩, ⟨#[50]⟩⟩]
def fld13b : List Fld := [⟨sXFF, ⟨#[49]⟩⟩]
theorem fld13a_strip : stripS fld13a = [⟨⟨#[88, 45, 66]⟩, ⟨#[50]⟩⟩] := by decide +kernel
theorem fld13b_up : fwdS fld13b ⟨#[55]⟩ false 0 = [⟨sXFF, ⟨#[49, 44, 32, 55]⟩⟩, ⟨sVia, sSelf⟩] := by decide +kernel
def te13 : Fld := ⟨⟨#[84, 114, 97, 110, 115, 102, 101, 114, 45, 69, 110, 99, 111, 100, 105, 110, 103]⟩, ⟨#[99, 104, 117, 110, 107, 101, 100]⟩⟩
def conL : ByteArray := ⟨#[99, 111, 110, 110, 101, 99, 116, 105, 111, 110]⟩
def hostA13 : Fld := ⟨sHost, ⟨#[97]⟩⟩
/-- a field that is not large -/
def SmallF (f : Fld) : Prop := f.name.size + f.val.size + 2 ≤ 100
theorem te13_small : SmallF te13 := by unfold SmallF; decide
theorem hostA13_small : SmallF hostA13 := by unfold SmallF; decide
theorem small_fsize {x : List Fld} {n : Nat} (h : ∀ f ∈ x, SmallF f) (hn : x.length ≤ n) : fsize x ≤ 100 * n := by
  have : fsize x ≤ 100 * x.length := by
    clear hn
    induction x with
    | nil => exact Nat.le_refl _
    | cons f x ih =>
      have h1 := h f (List.mem_cons_self ..)
      have h2 := ih fun g hg => h g (List.mem_cons_of_mem _ hg)
      unfold fsize at h2 ⊢
      unfold SmallF at h1
      simp only [List.map_cons, List.sum_cons, List.length_cons]
      omega
  omega
theorem small_snoc {x : List Fld} {f : Fld} (h : ∀ f ∈ x, SmallF f) (hf : SmallF f) : ∀ g ∈ x ++ [f], SmallF g := by
  intro g hg
  rcases List.mem_append.1 hg with h1 | h1
  · exact h g h1
  · rw [List.mem_singleton] at h1; subst h1; exact hf
end Go.Own
namespace Go.Proofs.YthohdgjjlkeclaaDoor
open Go.RowKit Go.Own
set_option linter.unusedVariables false
set_option maxHeartbeats 2000000

theorem rdf_lit13 (w : World) (l : List Fld) (cs : Array Value) (m n c : Nat) (h1 : cs = (fieldsV l).toArray) (h2 : m = w.heap.size) (h3 : n = l.length) (h4 : l.length ≤ c ∧ c ≤ maxLen) : RdF (w.alloc (.cells cs 41)) (.slice (some ⟨m, 0, none⟩) n c) l := by
  subst h1 h2 h3
  exact ⟨_, _, rfl, h4.1, h4.2, by simp, RdC_new w (fieldsV l) _ _⟩

/-- where made stands -/
def MadeAt (w0 : World) (p : Nat) (l : List Int) (n : Nat) (v : Value) (w : World) : Prop :=
  ∃ x a0 c0, v = .slice a0 x.length c0 ∧ Below w0.heap.size w0 w ∧ Src w p l ∧ OwnF (p + 1) w (.slice a0 x.length c0) x ∧ (∀ f ∈ x, SmallF f) ∧ x.length ≤ n
theorem MadeAt.src {w0 w w' : World} {p : Nat} {l : List Int} {n : Nat} {v : Value} (h : MadeAt w0 p l n v w) (hp : w0.heap.size ≤ p) (hg : w.grownBy w' (some p)) (hs : Src w' p l) : MadeAt w0 p l n v w' := by
  obtain ⟨x, a0, c0, h1, h2, h3, h4, h5, h6⟩ := h
  exact ⟨x, a0, c0, h1, below_src h2 hg hp, hs, own_src h4 hg (by omega), h5, h6⟩
theorem MadeAt.s {w0 w : World} {p : Nat} {l : List Int} {n : Nat} {v : Value} (h : MadeAt w0 p l n v w) : Src w p l := by
  obtain ⟨x, a0, c0, h1, h2, h3, h4, h5, h6⟩ := h; exact h3
theorem MadeAt.src2 {w0 w w' : World} {l : List Int} {n : Nat} {v : Value} (h : MadeAt w0 w0.heap.size l n v w) (hg : w.grownBy w' (some w0.heap.size)) (hs : Src w' w0.heap.size l) : MadeAt w0 w0.heap.size l n v w' := h.src (Nat.le_refl _) hg hs
theorem MadeAt.put {w0 w w' : World} {p : Nat} {l : List Int} {n n' : Nat} {x : List Fld} {f : Fld} {a0 a1 : Option Addr} {c0 c1 : Nat} (hp : w0.heap.size ≤ p) (h2 : Below w0.heap.size w0 w) (h3 : Src w p l) (h4 : OwnF (p + 1) w (.slice a0 x.length c0) x) (h5 : ∀ f ∈ x, SmallF f) (h6 : x.length ≤ n) (hf : SmallF f) (hn : n + 1 ≤ n') (hown : w'.ownsRow (p + 1) 41 2 (.slice a1 (x.length + 1) c1) (x.length + 1) (fieldsV x ++ f.cells)) (hg : w.grownBy w' (blk a0)) : MadeAt w0 p l n' (.slice a1 (x.length + 1) c1) w' := by
  have hlow : ∀ k, blk a0 = some k → p < k := fun k hk => (h4.lt k (by rw [ownBlock_slice]; exact hk)).1
  have ho := OwnF.snoc (f := f) hown
  exact ⟨x ++ [f], a1, c1, by simp, h2.grown hg h2.size (fun k hk => by have := hlow k hk; omega), src_own h3 hg hlow, by simpa using ho, small_snoc h5 hf, by simp; omega⟩
theorem MadeAt.le {w0 w : World} {p : Nat} {l : List Int} {n n' : Nat} {v : Value} (h : MadeAt w0 p l n v w) (hn : n ≤ n') : MadeAt w0 p l n' v w := by
  obtain ⟨x, a0, c0, h1, h2, h3, h4, h5, h6⟩ := h
  exact ⟨x, a0, c0, h1, h2, h3, h4, h5, by omega⟩

def len13 : List ByteArray := [⟨#[53]⟩, ⟨#[48, 53]⟩, ⟨#[120]⟩]
def con13 : List ByteArray := [⟨#[72, 111, 115, 116, 44, 32, 67, 111, 111, 107, 105, 101]⟩, ⟨#[118, 105, 97]⟩, ⟨#[120, 45, 102, 111, 114, 119, 97, 114, 100, 101, 100, 45, 102, 111, 114, 44, 32, 88, 45, 66]⟩, ⟨#[99, 111, 110, 116, 101, 110, 116, 45, 108, 101, 110, 103, 116, 104]⟩, ⟨#[88, 45, 82, 101, 113, 117, 101, 115, 116, 45, 73, 100, 44, 99, 108, 111, 115, 101]⟩]

set_option maxRecDepth 100000 in
theorem made13_calls (va : Value) (l : List Int) (w : World) (Hl : RdI w va l) :
    Calls Tryd.prog 5 #[va] w fun e w' => (∃ v x, e = .returned v ∧ OwnF w.heap.size w' v x ∧ (∀ f ∈ x, SmallF f) ∧ x.length ≤ 10) ∧ Below w.heap.size w w' := by
  obtain ⟨⟨al, cl, rfl, h11, h12, h13, hc⟩, hin⟩ := Hl
  have HS := Lib.hid (src_new w al l cl hc h11 h12 h13 hin)
  have HB0 := (Below.refl w.heap.size w).alloc (Nat.le_refl _) (.cells #[.slice al l.length cl, .int .i64 0] 29)
  have hz0 : w.heap.size + 1 ≤ (w.alloc (.cells #[.slice al l.length cl, .int .i64 0] 29)).heap.size := by simp
  clear hc hin h13 h11 h12
  go_enter Tryd.func5, Tryd.ntmps5
  go_wp2_with fail
  refine (sfields_calls _ l 6 _ HS.out (by omega) (by omega)).mono ?_
  rintro e w1 ⟨⟨v, x, rfl, hx6, hx, hown⟩, hg1, hs1⟩
  have HM1 : MadeAt w w.heap.size l 6 v w1 := by
    obtain ⟨a0, c0, rfl, -, -, -⟩ := owned_slice hown
    exact ⟨x, a0, c0, rfl, below_src HB0 hg1 (Nat.le_refl _), hs1, OwnF.base hown hz0, fun f hf => by have := hx f hf; unfold SmallF; unfold MadeF at this; omega, by omega⟩
  clear hown hx hx6 hs1 HS HB0 hz0 hg1
  have HM := Lib.hid HM1
  have hs := HM1.s
  clear HM1
  go_wp2_with fail
  refine (next_calls _ l 3 _ hs (by omega) (by omega)).mono ?_
  rintro e w2 ⟨⟨r1, rfl, hr1, hr2⟩, hg2, hs2⟩
  have HM2 := Lib.hid (HM.out.src (Nat.le_refl _) hg2 hs2)
  clear HM hg2 hs2 hr1 hr2 hs
  go_upto_if 12 with fail
  go_cut [3, 4] (fun s3 s4 wx => s3 = .pointer (some ⟨w.heap.size, 0, none⟩) ∧ MadeAt w w.heap.size l 7 s4 wx)
  case first =>
    cases hr : (r1 == 0) with
    | false =>
      go_wp2_with fail
      go_meet
      case rel => exact ⟨rfl, HM2.out.le (by omega)⟩
    | true =>
      obtain ⟨x, a0, c0, rfl, hb, hs, hown, hx, hxl⟩ := HM2.out
      have hroom : (x.length + 1) * 32 ≤ 140737488355328 := by omega
      have hroom2 : x.length + 1 ≤ maxLen := by simp [maxLen]; omega
      have hsz : w.heap.size + 1 ≤ w2.heap.size := hs.lt
      go_wp2_with (at_builtin; refine wpList_append_oneb rfl (.tmp 13) (.tmp 15) 23 rfl (w.heap.size + 1) hsz 41 (.agg #[.string .empty, .string .empty]) 2 32 Tryd.underlying23 info_fld rfl (by decide) a0 x.length c0 (fieldsV x) te13.cells rfl (str2_one _ _) rfl hown rfl hroom hroom2 ?_; intro a1 c1 w5 hown5 hg5 hw5)
      go_meet
      case rel => exact ⟨rfl, MadeAt.put (Nat.le_refl _) hb hs hown hx hxl te13_small (by omega) hown5 hg5⟩
  case rest =>
  clear HM2
  obtain ⟨rfl, HM⟩ := hcut
  have hs := HM.s
  have HM := Lib.hid HM
  go_wp2_with fail
  refine (next_calls _ l 3 _ hs (by omega) (by omega)).mono ?_
  rintro e w2 ⟨⟨r1, rfl, hr1, hr2⟩, hg2, hs2⟩
  have HM2 := Lib.hid (HM.out.src (Nat.le_refl _) hg2 hs2)
  clear HM hg2 hs2 hr1 hr2 hs
  go_upto_if 19 with fail
  go_cut [3, 4] (fun s3 s4 wx => s3 = .pointer (some ⟨w.heap.size, 0, none⟩) ∧ MadeAt w w.heap.size l 8 s4 wx)
  case first =>
    cases hr : (r1 == 0) with
    | false =>
      go_wp2_with fail
      go_meet
      case rel => exact ⟨rfl, HM2.out.le (by omega)⟩
    | true =>
      have hs := HM2.out.s
      go_wp2_with fail
      refine (oflit_calls len13 _ l _ _ 3 3 _ hs rfl (by simp) rfl (by decide) (by decide)).mono ?_
      rintro e w3 ⟨⟨y, hy, rfl⟩, hg3, hs3⟩
      have hy2 : y.size ≤ 30 := (by decide : ∀ y ∈ len13, y.size ≤ 30) y hy
      have HM3 := HM2.out.src2 hg3 hs3
      clear HM2 hg3 hs3 hs hy
      obtain ⟨x, a0, c0, rfl, hb, hs, hown, hx, hxl⟩ := HM3
      have hroom : (x.length + 1) * 32 ≤ 140737488355328 := by omega
      have hroom2 : x.length + 1 ≤ maxLen := by simp [maxLen]; omega
      have hsz : w.heap.size + 1 ≤ w3.heap.size := hs.lt
      have hsm : SmallF ⟨sLen, y⟩ := by have e : sLen.size = 14 := rfl; unfold SmallF; simp only [e]; omega
      go_wp2_with (at_builtin; refine wpList_append_oneb rfl (.tmp 20) (.tmp 25) 23 rfl (w.heap.size + 1) hsz 41 (.agg #[.string .empty, .string .empty]) 2 32 Tryd.underlying23 info_fld rfl (by decide) a0 x.length c0 (fieldsV x) (Fld.cells ⟨sLen, y⟩) rfl (str2_one _ _) rfl hown rfl hroom hroom2 ?_; intro a1 c1 w5 hown5 hg5 hw5)
      go_meet
      case rel => exact ⟨rfl, MadeAt.put (Nat.le_refl _) hb hs hown hx hxl hsm (by omega) hown5 hg5⟩
  case rest =>
  clear HM2
  obtain ⟨rfl, HM⟩ := hcut
  have hs := HM.s
  have HM := Lib.hid HM
  go_wp2_with fail
  refine (next_calls _ l 3 _ hs (by omega) (by omega)).mono ?_
  rintro e w2 ⟨⟨r1, rfl, hr1, hr2⟩, hg2, hs2⟩
  have HM2 := Lib.hid (HM.out.src (Nat.le_refl _) hg2 hs2)
  clear HM hg2 hs2 hr1 hr2 hs
  go_upto_if 29 with fail
  go_cut [3, 4] (fun s3 s4 wx => s3 = .pointer (some ⟨w.heap.size, 0, none⟩) ∧ MadeAt w w.heap.size l 9 s4 wx)
  case first =>
    cases hr : (r1 == 0) with
    | false =>
      go_wp2_with fail
      go_meet
      case rel => exact ⟨rfl, HM2.out.le (by omega)⟩
    | true =>
      have hs := HM2.out.s
      go_wp2_with fail
      refine (oflit_calls con13 _ l _ _ 5 5 _ hs rfl (by simp) rfl (by decide) (by decide)).mono ?_
      rintro e w3 ⟨⟨y, hy, rfl⟩, hg3, hs3⟩
      have hy2 : y.size ≤ 30 := (by decide : ∀ y ∈ con13, y.size ≤ 30) y hy
      have HM3 := HM2.out.src2 hg3 hs3
      clear HM2 hg3 hs3 hs hy
      obtain ⟨x, a0, c0, rfl, hb, hs, hown, hx, hxl⟩ := HM3
      have hroom : (x.length + 1) * 32 ≤ 140737488355328 := by omega
      have hroom2 : x.length + 1 ≤ maxLen := by simp [maxLen]; omega
      have hsz : w.heap.size + 1 ≤ w3.heap.size := hs.lt
      have hsm : SmallF ⟨conL, y⟩ := by have e : conL.size = 10 := rfl; unfold SmallF; simp only [e]; omega
      go_wp2_with (at_builtin; refine wpList_append_oneb rfl (.tmp 30) (.tmp 35) 23 rfl (w.heap.size + 1) hsz 41 (.agg #[.string .empty, .string .empty]) 2 32 Tryd.underlying23 info_fld rfl (by decide) a0 x.length c0 (fieldsV x) (Fld.cells ⟨conL, y⟩) rfl (str2_one _ _) rfl hown rfl hroom hroom2 ?_; intro a1 c1 w5 hown5 hg5 hw5)
      go_meet
      case rel => exact ⟨rfl, MadeAt.put (Nat.le_refl _) hb hs hown hx hxl hsm (by omega) hown5 hg5⟩
  case rest =>
  clear HM2
  obtain ⟨rfl, x, a0, c0, rfl, hb, hs, hown, hx, hxl⟩ := hcut
  have hroom : (x.length + 1) * 32 ≤ 140737488355328 := by omega
  have hroom2 : x.length + 1 ≤ maxLen := by simp [maxLen]; omega
  have hsz : w.heap.size + 1 ≤ wc.heap.size := hs.lt
  go_wp2_with (at_builtin; refine wpList_append_oneb rfl (.tmp 37) (.tmp 39) 23 rfl (w.heap.size + 1) hsz 41 (.agg #[.string .empty, .string .empty]) 2 32 Tryd.underlying23 info_fld rfl (by decide) a0 x.length c0 (fieldsV x) hostA13.cells rfl (str2_one _ _) rfl hown rfl hroom hroom2 ?_; intro a1 c1 w5 hown5 hg5 hw5)
  have HM := MadeAt.put (Nat.le_refl _) hb hs hown hx hxl hostA13_small (Nat.le_refl 10) hown5 hg5
  clear hown5 hg5 hw5 hown hx hxl hs hb hroom hroom2 hsz
  obtain ⟨y, b0, d0, e1, hb, hs, hown, hx, hxl⟩ := HM
  rw [e1]
  go_ret
  exact ⟨⟨_, y, rfl, OwnF.base hown (by omega), hx, hxl⟩, hb⟩

set_option maxRecDepth 100000 in
theorem awake13_calls (w : World) (hE : EnvP w) : Calls Tryd.prog 6 #[] w fun e w' => e = .returned (.bool true) ∧ Below w.heap.size w w' := by
  have CS := Lib.hid (fun v w hE Ha => strip_calls v fld13a w hE Ha (by decide))
  rw [fld13a_strip] at CS
  have CF := Lib.hid (fun v w hE Ha => forward_calls ⟨#[71, 69, 84]⟩ ⟨#[47]⟩ 0 v fld13b false (.slice none 0 0) [] ⟨#[55]⟩ w hE Ha (RdB_nil w) (by decide) (by decide) (by decide))
  have e0 : fwdS fld13b ⟨#[55]⟩ false ([] : List UInt8).length = [⟨sXFF, ⟨#[49, 44, 32, 55]⟩⟩, ⟨sVia, sSelf⟩] := fld13b_up
  rw [e0] at CF
  clear e0
  have HB0 := (Below.refl w.heap.size w).alloc (Nat.le_refl _) (.cells #[.string ⟨#[67, 111, 110, 110, 101, 99, 116, 105, 111, 110]⟩, .string ⟨#[99, 108, 111, 115, 101, 44, 32, 88, 45, 65]⟩, .string ⟨#[88, 45, 65]⟩, .string ⟨#[49]⟩, .string ⟨#[88, 45, 66]⟩, .string ⟨#[50]⟩] 41)
  go_enter Tryd.func6, Tryd.ntmps6
  go_wp2_with fail
  refine (CS.out _ _ (hE.below HB0).env (rdf_lit13 w fld13a _ _ _ _ rfl rfl rfl (by simp [maxLen]; decide))).mono ?_
  rintro e w1 ⟨⟨v1, rfl, hown⟩, hb1⟩
  have HB1 := Below.self_trans HB0 hb1
  obtain ⟨a1, c1, e1, q1, q2, q3, hc⟩ := hown.rd
  subst e1
  obtain ⟨b, off, rfl, d1, d2⟩ := RdC.fld hc 0 (by simp)
  have hlt := World.block_lt_of_cell? w1 _ d1
  clear hown hb1 HB0 hc
  go_wp2_with fail
  have HB2 := HB1.alloc HB1.size (.cells #[.string ⟨#[88, 45, 70, 111, 114, 119, 97, 114, 100, 101, 100, 45, 70, 111, 114]⟩, .string ⟨#[49]⟩] 41)
  refine (CF.out _ _ (hE.below HB2) (rdf_lit13 w1 fld13b _ _ _ _ rfl rfl rfl (by simp [maxLen]; decide))).mono ?_
  rintro e w2 ⟨⟨v2, v3, rfl, hown, hoy⟩, hb2⟩
  have HB3 := Below.self_trans HB2 hb2
  have d3 := cell_below (((Below.refl w1.heap.size w1).alloc (Nat.le_refl _) _).trans (hb2.mono (by simp))) d1
  obtain ⟨a2, c2, e1, p1, p2, p3, hc2⟩ := hown.rd
  subst e1
  obtain ⟨b2, off2, rfl, x1, x2⟩ := RdC.fld hc2 0 (by simp)
  obtain ⟨b3, off3, e3, x3, x4⟩ := RdC.fld hc2 1 (by simp)
  injection e3 with e3
  injection e3 with e3 e4
  subst e3 e4
  obtain ⟨a3, c3, rfl, -, -, -⟩ := owned_slice hoy
  clear hown hoy hb2 HB2 hc2
  have y0 : ∀ o : Obj, (w2.alloc o).cell? ⟨b, off, none⟩ = some (.string ⟨#[88, 45, 66]⟩) := fun o => cell_below ((Below.refl _ _).alloc (Nat.le_refl _) o) d3
  have y1 : ∀ o : Obj, (w2.alloc o).cell? ⟨b2, off2, none⟩ = some (.string ⟨#[88, 45, 70, 111, 114, 119, 97, 114, 100, 101, 100, 45, 70, 111, 114]⟩) := fun o => cell_below ((Below.refl _ _).alloc (Nat.le_refl _) o) x1
  have y2 : ∀ o : Obj, (w2.alloc o).cell? ⟨b2, off2 + 1, none⟩ = some (.string ⟨#[49, 44, 32, 55]⟩) := fun o => cell_below ((Below.refl _ _).alloc (Nat.le_refl _) o) x2
  have y3 : ∀ o : Obj, (w2.alloc o).cell? ⟨b2, off2 + 2, none⟩ = some (.string ⟨#[86, 105, 97]⟩) := fun o => cell_below ((Below.refl _ _).alloc (Nat.le_refl _) o) x3
  have y4 : ∀ o : Obj, (w2.alloc o).cell? ⟨b2, off2 + 2 + 1, none⟩ = some (.string ⟨#[49, 46, 49, 32, 99, 97, 110, 97, 114, 121]⟩) := fun o => cell_below ((Below.refl _ _).alloc (Nat.le_refl _) o) x4
  clear d1 d2 d3 x1 x2 x3 x4 CS CF HB1 hlt q1 q2 q3 p1 p2 p3
  go_wp2
  go_ret
  exact ⟨rfl, HB3.alloc HB3.size _⟩
end Go.Proofs.YthohdgjjlkeclaaDoor
