/- The core of HopEndToEnd. -/
import Derived.Test.YtajohphiclbjkaaDoorRRB13
namespace Go.Own
open Go.Proofs.YtajohphiclbjkaaDoorRR
set_option linter.unusedVariables false
def endN : List ByteArray := [⟨#[88, 45, 65]⟩, ⟨#[120, 45, 97]⟩, ⟨#[65, 99, 99, 101, 112, 116]⟩, ⟨#[68, 97, 116, 101]⟩, ⟨#[69, 84, 97, 103]⟩, ⟨#[67, 111, 111, 107, 105, 101]⟩]
def endV : List ByteArray := [⟨#[]⟩, ⟨#[49]⟩, ⟨#[97, 44, 32, 98]⟩]
/-- a field that no rule of the hop names -/
def EndF (f : Fld) : Prop := f.name ∈ endN ∧ f.val ∈ endV
theorem endN_ok : ∀ n ∈ endN, inFold fixedU n = false ∧ foldB n sConn = false ∧ foldB n sXFF = false ∧ foldB n sVia = false ∧ n.size ≤ 6 := by decide +kernel
theorem endV_ok : ∀ n ∈ endV, n.size ≤ 4 := by decide +kernel
theorem EndF.small {f : Fld} (h : EndF f) : SmallF f := by
  have h1 := (endN_ok _ h.1).2.2.2.2
  have h2 := endV_ok _ h.2
  unfold SmallF; omega
theorem all_snoc {K : Fld → Prop} {x : List Fld} {f : Fld} (h : ∀ f ∈ x, K f) (hf : K f) : ∀ g ∈ x ++ [f], K g := by
  intro g hg
  rcases List.mem_append.1 hg with h1 | h1
  · exact h g h1
  · rw [List.mem_singleton] at h1; subst h1; exact hf
theorem joinS_one (x : ByteArray) : joinS [x] = x := by unfold joinS; rw [List.map_cons, List.map_nil, Lib.join_one, bs_bl]
theorem joined_new {x : List Fld} {n m : ByteArray} (h : ∀ f ∈ x, foldB f.name n = false) : joinedS x n m = x ++ [⟨n, m⟩] := by
  have h2 : withoutS x [n] = x := withoutS_id fun f hf => by
    have := h f hf
    rw [foldB_comm] at this
    simp [inFold, this]
  unfold joinedS
  rw [valuesS_none h, h2, show elemsS [] = [] from rfl, List.nil_append, joinS_one]
theorem end_strip {x : List Fld} (h : ∀ f ∈ x, EndF f) : stripS x = x := by
  have hc : connE x = [] := by
    unfold connE
    rw [valuesS_none fun f hf => (endN_ok _ (h f hf).1).2.1]; rfl
  unfold stripS stripN
  rw [hc, List.filter_nil, List.append_nil]
  exact withoutS_id fun f hf => (endN_ok _ (h f hf).1).1
theorem end_up {x : List Fld} (p : ByteArray) (h : ∀ f ∈ x, EndF f) : upF x p = x ++ [⟨sXFF, p⟩, ⟨sVia, sSelf⟩] := by
  unfold upF viaS
  rw [end_strip h, joined_new fun f hf => (endN_ok _ (h f hf).1).2.2.1, joined_new]
  · simp
  · intro f hf
    rcases List.mem_append.1 hf with h1 | h1
    · exact (endN_ok _ (h f h1).1).2.2.2.1
    · rw [List.mem_singleton] at h1; subst h1; show foldB sXFF sVia = false; decide +kernel
theorem end_back {x : List Fld} (h : ∀ f ∈ x, EndF f) : viaS (stripS x) ++ [lenF 3] = x ++ [⟨sVia, sSelf⟩, lenF 3] := by
  unfold viaS
  rw [end_strip h, joined_new fun f hf => (endN_ok _ (h f hf).1).2.2.2.1]
  simp
theorem end_fsize {x : List Fld} (h : ∀ f ∈ x, EndF f) (hn : x.length ≤ 5) : fsize x ≤ 500 := small_fsize (fun f hf => (h f hf).small) hn
end Go.Own
namespace Go.Proofs.YtajohphiclbjkaaDoorRR
open Go.RowKit Go.Own
set_option linter.unusedVariables false
set_option maxHeartbeats 2000000

/-- where HopEndToEnd's loop stands -/
def EndAt (w0 : World) (p : Nat) (l : List Int) (k : Nat) (v : Value) (w : World) : Prop :=
  ∃ x a0 c0, v = .slice a0 x.length c0 ∧ Below w0.heap.size w0 w ∧ Src w p l ∧ OwnF (p + 1) w (.slice a0 x.length c0) x ∧ (∀ f ∈ x, EndF f) ∧ x.length + k ≤ 5
theorem EndAt.src {w0 w w' : World} {l : List Int} {k : Nat} {v : Value} (h : EndAt w0 w0.heap.size l k v w) (hg : w.grownBy w' (some w0.heap.size)) (hs : Src w' w0.heap.size l) : EndAt w0 w0.heap.size l k v w' := by
  obtain ⟨x, a0, c0, h1, h2, h3, h4, h5, h6⟩ := h
  exact ⟨x, a0, c0, h1, below_src h2 hg (Nat.le_refl _), hs, own_src h4 hg (by omega), h5, h6⟩
theorem EndAt.s {w0 w : World} {p : Nat} {l : List Int} {n : Nat} {v : Value} (h : EndAt w0 p l n v w) : Src w p l := by
  obtain ⟨x, a0, c0, h1, h2, h3, h4, h5, h6⟩ := h; exact h3
theorem EndAt.put {w0 w w' : World} {p : Nat} {l : List Int} {k : Nat} {x : List Fld} {f : Fld} {a0 a1 : Option Addr} {c0 c1 : Nat} (hp : w0.heap.size ≤ p) (h2 : Below w0.heap.size w0 w) (h3 : Src w p l) (h4 : OwnF (p + 1) w (.slice a0 x.length c0) x) (h5 : ∀ f ∈ x, EndF f) (h6 : x.length + (k + 1) ≤ 5) (hf : EndF f) (hown : w'.ownsRow (p + 1) 62 2 (.slice a1 (x.length + 1) c1) (x.length + 1) (fieldsV x ++ f.cells)) (hg : w.grownBy w' (blk a0)) : EndAt w0 p l k (.slice a1 (x.length + 1) c1) w' := by
  have hlow : ∀ k, blk a0 = some k → p < k := fun k hk => (h4.lt k (by rw [ownBlock_slice]; exact hk)).1
  have ho := OwnF.snoc (f := f) hown
  exact ⟨x ++ [f], a1, c1, by simp, h2.grown hg h2.size (fun k hk => by have := hlow k hk; omega), src_own h3 hg hlow, by simpa using ho, all_snoc h5 hf, by simp; omega⟩
theorem RdF.pre {w : World} {a : Option Addr} {n c : Nat} {x y : List Fld} (h : RdF w (.slice a n c) (x ++ y)) (hc : c ≤ c) : RdF w (.slice a x.length c) x := by
  obtain ⟨a2, c2, e, h1, h2, h3, h4⟩ := h
  injection e with e1 e2 e3
  subst e1 e3
  rw [List.length_append] at h1
  refine ⟨a, c, rfl, by omega, h2, h3, ?_⟩
  have e : fieldsV (x ++ y) = fieldsV x ++ fieldsV y := by simp [fieldsV]
  rw [e] at h4
  intro k hk
  obtain ⟨b, off, e1, h5⟩ := h4 k (by rw [List.length_append]; omega)
  exact ⟨b, off, e1, by rw [h5, List.getElem_append_left hk]⟩

set_option maxRecDepth 100000 in
theorem hopEndToEnd_core (vl : Value) (l : List Int) (w : World) (hE : EnvP w) (Hl : RdI w vl l) :
    Calls Tryd.prog 9 #[vl] w fun e w' => e = .returned (.bool true) ∧ Below w.heap.size w w' := by
  have CA := Lib.hid (fun w hE => awake13_calls w hE)
  obtain ⟨⟨al, cl, rfl, h11, h12, h13, hc⟩, hin⟩ := Hl
  have HS := Lib.hid (src_new w al l cl hc h11 h12 h13 hin)
  have HB0 := (Below.refl w.heap.size w).alloc (Nat.le_refl _) (.cells #[.slice al l.length cl, .int .i64 0] 30)
  clear hc hin h13 h11 h12
  go_enter Tryd.func9, Tryd.ntmps9
  go_wp2_with fail
  refine (next_calls _ l 6 _ HS.out (by omega) (by omega)).mono ?_
  rintro e w1 ⟨⟨r, rfl, hr1, hr2⟩, hg1, hs1⟩
  obtain ⟨n, rfl⟩ := Int.eq_ofNat_of_zero_le hr1
  have HM := Lib.hid (show EndAt w w.heap.size l n (.slice none 0 0) w1 from ⟨[], none, 0, rfl, below_src HB0 hg1 (Nat.le_refl _), hs1, World.ownsRow_nil _ _ _ _, fun f hf => (by cases hf), by simp; omega⟩)
  clear hr1 hr2 hg1 hs1 HB0 HS
  go_wp2
  go_loopw [4, 5] (fun v i wr => ∃ k : Nat, i = .int .i64 k ∧ Hid (EndAt w w.heap.size l k v wr)) (fun _ i _ => (intOf i).toNat)
  case atStart => exact ⟨n, rfl, HM⟩
  case round =>
    clear HM
    obtain ⟨k, rfl, HM⟩ := hrel
    cases k with
    | succ k =>
      have hpos : (0 : Int) < ((k + 1 : Nat) : Int) := by omega
      have hs := HM.out.s
      go_wp2_with fail
      refine (oflit_calls endN _ l _ _ 6 6 _ hs rfl (by simp) rfl (by decide) (by decide)).mono ?_
      rintro e w3 ⟨⟨y, hy, rfl⟩, hg3, hs3⟩
      have HM3 := Lib.hid (HM.out.src hg3 hs3)
      have HY := Lib.hid hy
      clear HM hg3 hs hy
      go_wp2_with fail
      refine (oflit_calls endV _ l _ _ 3 3 _ hs3 rfl (by simp) rfl (by decide) (by decide)).mono ?_
      rintro e w4 ⟨⟨z, hz, rfl⟩, hg4, hs4⟩
      obtain ⟨x, a0, c0, rfl, hb, hs, hown, hx, hxl⟩ := HM3.out.src hg4 hs4
      have HZ := Lib.hid hz
      have hroom : (x.length + 1) * 32 ≤ 140737488355328 := by omega
      have hroom2 : x.length + 1 ≤ maxLen := by simp [maxLen]; omega
      have hsz : w.heap.size + 1 ≤ w4.heap.size := hs.lt
      clear HM3 hg4 hs4 hs3 hz
      go_wp2_with (at_builtin; refine wpList_append_oneb rfl (.tmp 17) (.tmp 25) 24 rfl (w.heap.size + 1) hsz 62 (.agg #[.string .empty, .string .empty]) 2 32 Tryd.underlying24 info_fld rfl (by decide) a0 x.length c0 (fieldsV x) (Fld.cells ⟨y, z⟩) rfl (str2_one _ _) rfl hown rfl hroom hroom2 ?_; intro a1 c1 w5 hown5 hg5 hw5)
      have HM5 := Lib.hid (EndAt.put (Nat.le_refl _) hb hs hown hx hxl ⟨HY.out, HZ.out⟩ hown5 hg5)
      clear hown5 hg5 hw5 hown hx hxl hs hb hroom hroom2 hsz
      go_roundw
      case rel => exact ⟨k, by go_num, HM5⟩
      case measure => simp [intOf]
    | zero =>
      have hpos : ¬ (0 : Int) < ((0 : Nat) : Int) := by omega
      obtain ⟨x, a0, c0, rfl, hb, -, hown, hx, hxl⟩ := HM.out
      have hf := end_fsize hx (by omega)
      have CF := Lib.hid (fun v w hE Ha => forward_calls ⟨#[71, 69, 84]⟩ ⟨#[47]⟩ 1 v x false (.slice none 0 0) [] ⟨#[49]⟩ w hE Ha (RdB_nil w) (by omega) (by decide) (by decide))
      have e0 : fwdS x ⟨#[49]⟩ false ([] : List UInt8).length = x ++ [⟨sXFF, ⟨#[49]⟩⟩, ⟨sVia, sSelf⟩] := end_up _ hx
      rw [e0] at CF
      have CB := Lib.hid (fun v w hE Ha => backward_calls v x w hE Ha (by omega))
      have e4 : lenF 3 = ⟨sLen, ⟨#[51]⟩⟩ := by unfold lenF; rw [show bs (digs 10 3) = (⟨#[51]⟩ : ByteArray) by decide +kernel]
      rw [end_back hx, e4] at CB
      have Hx := hown.rd
      clear e0 e4 hx hf hown HM
      go_wp2_with fail
      refine (CF.out _ _ (hE.below hb) Hx).mono ?_
      rintro e w2 ⟨⟨v2, v3, rfl, hown, hoy⟩, hb2⟩
      have HB2 := Below.self_trans hb hb2
      have Hx2 := RdF.below Hx hb2
      have HR2 := hown.rd
      obtain ⟨a2, c2, rfl, -, -, -⟩ := owned_slice hown
      obtain ⟨a3, c3, rfl, -, -, -⟩ := owned_slice hoy
      clear hown hoy hb2 hb Hx CF
      go_wp2_with fail
      have HB3 := HB2.alloc HB2.size (.cells #[.string ⟨#[71, 69, 84]⟩, .string ⟨#[47]⟩, .int .i64 1, .slice a2 (x.length + 2) c2, .bool false, .slice a3 0 c3] 27)
      have HA := (Below.refl w2.heap.size w2).alloc (Nat.le_refl _) (.cells #[.string ⟨#[71, 69, 84]⟩, .string ⟨#[47]⟩, .int .i64 1, .slice a2 (x.length + 2) c2, .bool false, .slice a3 0 c3] 27)
      have HN := heap_alloc_new w2 (.cells #[.string ⟨#[71, 69, 84]⟩, .string ⟨#[47]⟩, .int .i64 1, .slice a2 (x.length + 2) c2, .bool false, .slice a3 0 c3] 27)
      refine (CB.out _ _ (hE.below HB3) (RdF.below Hx2 HA)).mono ?_
      rintro e w3 ⟨⟨v4, v5, rfl, hown, hoy⟩, hb3⟩
      have HB4 := Below.self_trans HB3 hb3
      have Hx3 := RdF.below (RdF.below Hx2 HA) hb3
      have HR3 := RdF.below (RdF.below HR2 HA) hb3
      have HN3 := row_below HN hb3
      have HR4 := hown.rd
      obtain ⟨a4, c4, rfl, -, -, -⟩ := owned_slice hown
      obtain ⟨a5, c5, rfl, -, -, -⟩ := owned_slice hoy
      obtain ⟨⟨-, -, -, q3, -, -⟩, -, -⟩ := row6 HN3
      have y0 : ∀ o : Obj, (w3.alloc o).cell? ⟨w2.heap.size, 3, none⟩ = some (.slice a2 (x.length + 2) c2) := fun o => cell_below ((Below.refl _ _).alloc (Nat.le_refl _) o) q3
      clear hown hoy hb3 HB2 HB3 HN HN3 HA Hx2 HR2 q3 CB
      obtain ⟨_, _, e5, k1, -⟩ := id HR3
      injection e5 with e5 e6 e7
      obtain ⟨_, _, e8, k2, -, -, k3⟩ := id HR4
      injection e8 with e8 e9 e10
      subst e5 e7 e8 e10
      rw [List.length_append] at k1 k2
      have k1i : (x.length : Int) ≤ (c2 : Int) := by omega
      have k2i : (x.length : Int) ≤ (c4 : Int) := by omega
      obtain ⟨b, off, rfl, d1, d2⟩ := RdC.fld k3 (x.length + 1) (by simp)
      have hg1 : (x ++ [⟨sVia, sSelf⟩, (⟨sLen, ⟨#[51]⟩⟩ : Fld)])[x.length + 1]'(by simp) = ⟨sLen, ⟨#[51]⟩⟩ := by rw [List.getElem_append_right (by omega)]; simp
      rw [hg1] at d1 d2
      have HA4 := (Below.refl w3.heap.size w3).alloc (Nat.le_refl _) (.cells #[.int .i64 200, .string .empty, .int .i64 1, .slice (some ⟨b, off, none⟩) (x.length + 2) c4, .slice a5 0 c5] 43)
      have HN4 := heap_alloc_new w3 (.cells #[.int .i64 200, .string .empty, .int .i64 1, .slice (some ⟨b, off, none⟩) (x.length + 2) c4, .slice a5 0 c5] 43)
      have HX4 := RdF.below Hx3 HA4
      have HP4 := RdF.below (RdF.pre HR3 (Nat.le_refl _)) HA4
      have HP5 := RdF.below (RdF.pre HR4 (Nat.le_refl _)) HA4
      have HB5 := Below.self_trans HB4 HA4
      have d1 : w3.cell? _ = some (.string ⟨#[67, 111, 110, 116, 101, 110, 116, 45, 76, 101, 110, 103, 116, 104]⟩) := d1
      have d3 := cell_below HA4 d1
      have d4 := cell_below HA4 d2
      clear e6 e9 k1 k2 k3 hg1 d1 d2 HA4 HB4 Hx3 HR3 HR4
      have HN5 := Lib.hid HN4
      clear HN4
      go_wp2_with fail
      refine (sameF_calls _ _ x _ HP4 HX4).mono ?_
      rintro e w4 ⟨rfl, hb⟩
      have HN4 := row_below HN5.out hb
      obtain ⟨⟨-, -, -, q3, -⟩, -, -⟩ := row5 HN4
      have HX5 := RdF.below HX4 hb
      have HP6 := RdF.below HP5 hb
      have HB6 := Below.self_trans HB5 hb
      have d5 := cell_below hb d3
      have d6 := cell_below hb d4
      clear HN4 HN5 HX4 HP4 HP5 HB5 d3 d4 hb
      go_wp2_with fail
      refine (sameF_calls _ _ x _ HP6 HX5).mono ?_
      rintro e w5 ⟨rfl, hb⟩
      have HB7 := Below.self_trans HB6 hb
      have q4 := cell_below hb q3
      have d7 := cell_below hb d5
      have d8 := cell_below hb d6
      clear HX5 HP6 HB6 d5 d6 hb q3
      go_wp2_with fail
      refine (CA.out _ (hE.below HB7)).mono ?_
      rintro e w6 ⟨rfl, hb⟩
      have HB8 := Below.self_trans HB7 hb
      clear hb HB7
      go_wp2
      go_ret
      exact ⟨rfl, HB8⟩
end Go.Proofs.YtajohphiclbjkaaDoorRR
