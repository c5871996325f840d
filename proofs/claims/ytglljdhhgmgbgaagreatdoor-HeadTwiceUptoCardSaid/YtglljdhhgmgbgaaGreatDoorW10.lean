/- The heads that the laws of layer 10 are about: wire. -/
import Derived.Test.YtglljdhhgmgbgaaGreatDoorPB
import Derived.Test.YtglljdhhgmgbgaaGreatDoorHeadF
import Derived.Test.YtglljdhhgmgbgaaGreatDoorSrcR
import Derived.Deep.DeepCutAuto
import Derived.Deep.CutBlock
import Derived.Deep.Onto
import Derived.IntWalk
namespace Go.Proofs.YtglljdhhgmgbgaaGreatDoor
open Go.RowKit Go.Own
set_option linter.unusedVariables false
set_option maxHeartbeats 4000000

theorem made_fsz {x : List Fld} {n : Nat} (h : ∀ f ∈ x, MadeQ f) (hn : x.length ≤ n) : fsize x ≤ n * 45 := by
  have : fsize x ≤ x.length * 45 := by
    clear hn
    induction x with
    | nil => exact Nat.zero_le _
    | cons f x ih =>
      have h1 := h f (List.mem_cons_self ..)
      have h2 := ih fun g hg => h g (List.mem_cons_of_mem _ hg)
      unfold fsize at h2 ⊢
      simp only [List.map_cons, List.sum_cons, List.length_cons]
      obtain ⟨-, q1, q2⟩ := h1
      omega
  exact Nat.le_trans this (Nat.mul_le_mul_right _ hn)
theorem made_valid {x : List Fld} (h : ∀ f ∈ x, MadeQ f) : x.all validF = true := List.all_eq_true.2 fun f hf => (h f hf).1
theorem madeF_Q {f : Fld} (h : MadeF f) : MadeQ f := ⟨h.1, h.2.1, h.2.2.1⟩
theorem madeR_ok {m t : ByteArray} {n : Int} {x : List Fld} {fr : Bool} {b : List UInt8} (h : MadeR m t n x fr b) : okReq m t n = true ∧ m.size ≤ 4 ∧ t.size ≤ 8 := by
  obtain ⟨⟨h1, h2, h3⟩, -, -⟩ := h
  obtain ⟨q1, q2⟩ := reqMs_ok m h1
  obtain ⟨q3, q4⟩ := reqTs_ok t h2
  refine ⟨?_, q2, q4⟩
  unfold okReq
  rw [q1, q3]
  rcases h3 with rfl | rfl <;> decide
theorem fmtReq_ne {m t : ByteArray} {n : Int} (h : okReq m t n = true) : (fmtReq m t n).toList.isEmpty = false := by
  have e : bl (fmtReq m t n) = bl m ++ 32 :: (bl t ++ 32 :: (bl httpB ++ digs 10 n.toNat)) := by unfold fmtReq; rw [if_pos h, bl_bs]
  rw [toList_bl, e]; cases bl m <;> rfl
theorem fmtSt_ne' {st n : Int} {r : ByteArray} (h : okSt st r n = true) : (fmtSt st r n).toList.isEmpty = false := by
  obtain ⟨k, hk, k1, k2, v, hv, hb⟩ := fmtSt_bl h
  rw [toList_bl, hb]; rfl
theorem MutY_src {B p : Nat} {w w' : World} {v : Value} {l : List UInt8} (h : MutY B w v l) (hg : w.grownBy w' (some p)) (hp : p < B) : MutY B w' v l := by
  obtain ⟨g, cap, rfl, h1, h2, h3, h4, h5, h6⟩ := h
  have hne : some g ≠ some p := by intro e; have := Option.some.inj e; omega
  have hblk : w'.heap[g]? = w.heap[g]? := hg.block g h2 hne
  have hc : ∀ j, w'.cell? ⟨g, j, none⟩ = w.cell? ⟨g, j, none⟩ := fun j => World.cell?_of_block hblk
  have hf : ∀ j, w'.frozen? ⟨g, j, none⟩ = w.frozen? ⟨g, j, none⟩ := fun j => World.frozen?_of_block hblk
  refine ⟨g, cap, rfl, h1, Nat.lt_of_lt_of_le h2 hg.size, h3, h4, h5.grown hg (Or.inr hne), fun j hj => by rw [hc, hf]; exact h6 j hj⟩
/-- bytes of a head: they may be written, two at least -/
def WireB (B : Nat) (w : World) (v : Value) (n : Nat) : Prop := ∃ b, MutY B w v b ∧ 2 ≤ b.length ∧ b.length ≤ n
theorem wire_of {B : Nat} {w : World} {v : Value} {line : ByteArray} {x : List Fld} (h : OutY B w v (headB line x)) (hl : line.toList.isEmpty = false) (hv : x.all validF = true) {n : Nat} (h1 : line.size + 2 * fsize x + 4 ≤ n) : WireB B w v n := by
  have hlen := headB_length line x
  have h2 : 2 ≤ (headB line x).length := by rw [headB_ok hl hv]; simp only [List.length_append, List.length_cons]; omega
  rcases h with ⟨h, -⟩ | h
  · rw [h] at h2; simp at h2
  · exact ⟨_, h, h2, by unfold fsize at h1; omega⟩
theorem okSt_made {r q : Int} {rs : ByteArray} (h1 : 0 ≤ r) (h2 : r < 5) (h3 : rs ∈ [(⟨#[]⟩ : ByteArray), ⟨#[79, 75]⟩]) (h4 : 0 ≤ q) (h5 : q < 2) : okSt (200 + r) rs q = true ∧ rs.size ≤ 2 := by
  have hv : ∀ s ∈ [(⟨#[]⟩ : ByteArray), ⟨#[79, 75]⟩], visible (bl s) = true ∧ s.size ≤ 2 := by decide +kernel
  obtain ⟨q1, q2⟩ := hv rs h3
  refine ⟨?_, q2⟩
  unfold okSt
  rw [q1, decide_eq_true (by omega), decide_eq_true (by omega), decide_eq_true (by omega), decide_eq_true (by omega)]; rfl

def foldsL : List ByteArray := [⟨#[32, 102, 111, 108, 100, 101, 100, 13, 10, 13, 10]⟩, ⟨#[72, 111, 115, 116, 58, 32, 116, 119, 111, 13, 10, 13, 10]⟩, ⟨#[97, 13, 10, 13, 10]⟩, ⟨#[65, 32, 58, 32, 98, 13, 10, 13, 10]⟩, ⟨#[65, 58, 32, 98, 10, 13, 10]⟩, ⟨#[13, 10, 65, 58, 32, 98, 13, 10, 13, 10]⟩]
theorem foldsL_max : foldsL.all (fun s => decide (s.size ≤ 20)) = true := by decide
theorem foldsL_min : ∀ s ∈ foldsL, 2 ≤ s.size := by decide
set_option maxRecDepth 100000 in
theorem wire_calls (vl : Value) (l : List Int) (reply : Bool) (at0 : Int) (c : UInt8) (w : World) (Hl : RdI w vl l) (hat : In64 at0) :
    Calls Tryz.prog 8 #[vl, .bool reply, .int .i64 at0, .int .u8 (c.toNat : Int)] w fun e w' => (∃ v, e = .returned v ∧ WireB w.heap.size w' v 700) ∧ Below w.heap.size w w' := by
  obtain ⟨⟨al, cl, rfl, h11, h12, h13, hc⟩, hin⟩ := Hl
  have HS := Lib.hid (src_new w al l cl hc h11 h12 h13 hin)
  have HB0 := (Below.refl w.heap.size w).alloc (Nat.le_refl _) (.cells #[.slice al l.length cl, .int .i64 0] 40)
  clear hc hin h13
  go_enter Tryz.func8, Tryz.ntmps8
  go_upto_if 14 with fail
  go_cut [10] (fun s10 wx => WireB (w.heap.size + 1) wx s10 600 ∧ Src wx w.heap.size l ∧ Below w.heap.size w wx)
  case first =>
    cases reply with
    | true =>
      go_wp2_with fail
      refine (next_calls _ l 5 _ HS.out (by omega) (by omega)).mono ?_
      rintro e w1 ⟨⟨r, rfl, hr1, hr2⟩, hg1, hs1⟩
      have hb1 := below_src HB0 hg1 (Nat.le_refl _)
      go_wp2_with fail
      refine (oflit_calls [(⟨#[]⟩ : ByteArray), ⟨#[79, 75]⟩] _ l _ _ 2 2 _ hs1 rfl rfl rfl (by decide) (by decide)).mono ?_
      rintro e w2 ⟨⟨rs, hrs, rfl⟩, hg2, hs2⟩
      have hb2 := below_src hb1 hg2 (Nat.le_refl _)
      go_wp2_with fail
      refine (next_calls _ l 2 _ hs2 (by omega) (by omega)).mono ?_
      rintro e w3 ⟨⟨q, rfl, hq1, hq2⟩, hg3, hs3⟩
      have hb3 := below_src hb2 hg3 (Nat.le_refl _)
      go_wp2_with fail
      refine (sfields_calls _ l 4 _ hs3 (by omega) (by omega)).mono ?_
      rintro e w4 ⟨⟨vf, x, rfl, hx4, hx, hof⟩, hg4, hs4⟩
      have hb4 := below_src hb3 hg4 (Nat.le_refl _)
      obtain ⟨hok, hrz⟩ := okSt_made hr1 hr2 hrs hq1 hq2
      have hmq : ∀ f ∈ x, MadeQ f := fun f hf => madeF_Q (hx f hf)
      have hfx := made_fsz hmq (show x.length ≤ 4 by omega)
      have hsz := fmtSt_size (200 + r) q rs
      have HW := Lib.hid (fun B w v h => wire_of (B := B) (w := w) (v := v) (n := 600) (line := fmtSt (200 + r) rs q) (x := x) h (fmtSt_ne' hok) (made_valid hmq) (by omega))
      have HC := Lib.hid (refHeadRep_calls (200 + r) rs q vf (.slice none 0 0) x w4 (by omega) hof.rd (by omega))
      have HL := hs4.lt
      clear hmq hx hg1 hg2 hg3 hg4 hs1 hs2 hs3 hb1 hb2 hb3 hok hsz hrs hfx hrz hx4
      obtain ⟨af, cf, rfl, -, -, -⟩ := owned_slice hof
      go_wp2_with fail
      refine HC.out.mono ?_
      rintro e w5 ⟨⟨v, rfl, hv⟩, hb5⟩
      go_wp2
      go_meet
      case rel => exact ⟨HW.out _ _ _ (by
        rcases hv with h | h
        · exact Or.inl h
        · exact Or.inr (h.mono (by omega))), hs4.grown hb5, Below.self_trans hb4 hb5⟩
    | false =>
      go_wp2_with fail
      refine (request_calls _ l _ HS.out).mono ?_
      rintro e w1 ⟨⟨m, t, n, vf, x, fr, vb, b, rfl, hm, hof, hob⟩, hg, hs1⟩
      have hb1 := below_src HB0 hg (Nat.le_refl _)
      obtain ⟨hok, hm4, ht8⟩ := madeR_ok hm
      have hfx := made_fsz hm.2.1.1 hm.2.1.2.1
      have hsz := fmtReq_size m t n
      have HW := Lib.hid (fun B w v h => wire_of (B := B) (w := w) (v := v) (n := 600) (line := fmtReq m t n) (x := x) h (fmtReq_ne hok) (made_valid hm.2.1.1) (by omega))
      have HC := Lib.hid (refHeadReq_calls m t n vf fr vb x w1 (by omega) (by omega) hof.rd (by omega))
      have HL := hs1.lt
      clear hm hob hg hok hsz
      obtain ⟨af, cf, rfl, -, -, -⟩ := owned_slice hof
      go_wp2_with fail
      refine HC.out.mono ?_
      rintro e w2 ⟨⟨v, rfl, hv⟩, hb2⟩
      go_wp2
      go_meet
      case rel => exact ⟨HW.out _ _ _ (by
        rcases hv with h | h
        · exact Or.inl h
        · exact Or.inr (h.mono (by omega))), hs1.grown hb2, Below.self_trans hb1 hb2⟩
  case rest =>
  obtain ⟨HW, hs, HB⟩ := hcut
  clear HS HB0
  go_wp2_with fail
  refine (next_calls _ l 4 _ hs (by omega) (by omega)).mono ?_
  rintro e w2 ⟨⟨r, rfl, hr1, hr2⟩, hg2, hs2⟩
  have HB2 := below_src HB hg2 (Nat.le_refl _)
  obtain ⟨b, hm, hb2, hb6⟩ := HW
  have hm2 := MutY_src hm hg2 (by omega)
  clear hs HB hg2 hm
  obtain ⟨g, cap, rfl, q1, q2, q3, q4, -, -⟩ := id hm2
  go_upto_if 32 with fail
  go_cut [10] (fun s10 wx => WireB w.heap.size wx s10 700 ∧ Below w.heap.size w wx)
  case first =>
    cases hr : (r == 3) with
    | false =>
      go_wp2_with fail
      go_meet
      case rel => exact ⟨⟨b, hm2.mono (by omega), hb2, by omega⟩, HB2⟩
    | true =>
      have hbi : (2 : Int) ≤ (b.length : Int) := by omega
      have hci : (b.length : Int) ≤ (cap : Int) := by omega
      have hc0 : ¬ cap = 0 := by omega
      have HD := (Below.refl w2.heap.size w2).drew
      have hm3 := Lib.hid (hm2.below HD)
      have hs3 := Lib.hid (hs2.grown HD)
      have HB3 := Lib.hid (Below.self_trans HB2 HD)
      have hlt := hs3.out.lt
      go_wp2_with fail
      have n0 : IntKind.i64.wrap ((b.length : Int) - 2) = (b.length : Int) - 2 := IntWalk.i64_in _ (by omega)
      have n1 : 0 ≤ (b.length : Int) - 2 := by omega
      have n2 : (b.length : Int) - 2 ≤ (cap : Int) := by omega
      have n3 : ((b.length : Int) - 2).toNat = b.length - 2 := by omega
      go_region_law ((first
        | (refine step_append_str rfl (.tmp 37) (.tmp 40) 23 9 rfl (w.heap.size + 1) hsz 5 Tryz.underlying23 Tryz.underlying9 info_u8 (.slice (some ⟨g, 0, none⟩) (b.length - 2) cap) (b.take (b.length - 2)) rfl hm5 S rfl (by rw [List.length_take]; omega) ?_; intro v' w5 hm6 hb6')
        | (go_simp; go_at_call 27; refine (oflit_calls foldsL _ l _ _ 6 6 _ hs3.out rfl rfl rfl (by decide) (by decide)).mono ?_; rintro e w4 ⟨⟨S, hS, rfl⟩, hg4, hs4⟩; have hm5 := (MutY_src hm3.out hg4 (by omega)).take (b.length - 2) (by omega); have hS2 := of_max hS foldsL_max; have hsz := Nat.lt_of_lt_of_le hlt hg4.size; have HB4 := below_src HB3.out hg4 (Nat.le_refl _))))
      all_goals
        apply_assumption
        go_meet
        case rel => exact ⟨⟨_, hm6.mono (by omega), by have := foldsL_min S hS; simp only [List.length_append, ← size_toList]; omega, by simp only [List.length_append, List.length_take, ← size_toList]; omega⟩, hb6' _ _ (by omega) HB4⟩
  case rest =>
  obtain ⟨⟨b, hm, hb2, hb7⟩, HB⟩ := hcut
  clear hm2 hs2 HB2
  obtain ⟨g, cap, rfl, q1, q2, q3, q4, -, -⟩ := id hm
  have hpos : (0 : Int) < (b.length : Int) := by omega
  cases hbit : (bits BinOp.and IntKind.i64 at0 1 == 1) with
  | false =>
    go_wp2_with fail
    go_ret
    exact ⟨⟨_, rfl, b, hm, hb2, hb7⟩, HB⟩
  | true =>
    have hat2 : In64 (at0 / 2) := by unfold In64 at hat ⊢; omega
    go_wp2_with fail
    refine (within_calls (at0 / 2) b.length wc hat2 (by omega) (by omega)).mono ?_
    rintro e w3 ⟨rfl, rfl⟩
    obtain ⟨b1, b2⟩ := within_bd (at0 / 2) (b.length : Int) (by omega)
    obtain ⟨k, hk⟩ := Int.eq_ofNat_of_zero_le b1
    rw [hk] at b2 ⊢
    have hkN : k < b.length := by omega
    obtain ⟨m0, m1⟩ := hm.cell k hkN
    have HM := Lib.hid (hm.set k hkN c)
    have HB2 := Lib.hid (HB.setCell (p := ⟨g, k, none⟩) q1 (.int .u8 (c.toNat : Int)))
    have HLN := Lib.hid (show (b.set k c).length = b.length from List.length_set ..)
    clear hm HB b1 b2 hk
    go_wp2
    go_ret
    exact ⟨⟨_, rfl, b.set k c, HM.out, by rw [HLN.out]; exact hb2, by rw [HLN.out]; exact hb7⟩, HB2.out⟩
end Go.Proofs.YtglljdhhgmgbgaaGreatDoor
