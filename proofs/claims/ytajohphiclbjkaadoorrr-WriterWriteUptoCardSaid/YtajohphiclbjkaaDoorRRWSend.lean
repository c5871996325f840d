/- Messages with their bodies: Request and Reply of package writer and of its reference. -/
import Derived.Test.YtajohphiclbjkaaDoorRRHeadF
import Derived.Test.YtajohphiclbjkaaDoorRRConB
import Derived.Test.YtajohphiclbjkaaDoorRRWMake
namespace Go.Proofs.YtajohphiclbjkaaDoorRR
open Go.RowKit Go.Own
set_option linter.unusedVariables false
set_option maxHeartbeats 2000000

/-- a head followed by a body; nothing where there is no head -/
def msgB (h b : List UInt8) : List UInt8 := if h.isEmpty then [] else h ++ b

theorem message_calls (vh vb : Value) (h b : List UInt8) (w : World) (Hh : RdB w vh h) (Hb : RdB w vb b) (h1 : h.length ≤ 100000000) (h2 : b.length ≤ 100000000) :
    Calls Tryd.prog 82 #[vh, vb] w fun e w' => (∃ v, e = .returned v ∧ RdB w' v (msgB h b)) ∧ Below w.heap.size w w' := by
  obtain ⟨a1, c1, rfl, p1, p2, p3, p4⟩ := id Hh
  obtain ⟨a2, c2, rfl, q1, q2, q3, q4⟩ := id Hb
  cases h with
  | nil =>
    go_enter Tryd.func82, Tryd.ntmps82
    go_wp2
    go_ret
    exact ⟨⟨_, rfl, RdB_nil _⟩, Below.refl _ _⟩
  | cons h0 hl =>
    have e0 : (((h0 :: hl).length : Int) == 0) = false := by simp only [List.length_cons]; rw [beq_eq_false_iff_ne]; omega
    have HL := Lib.hid (show msgB (h0 :: hl) b = (h0 :: hl) ++ b from rfl)
    generalize hHl : h0 :: hl = H at *
    go_enter Tryd.func82, Tryd.ntmps82
    go_wp2_with fail
    refine (concatB_calls w.heap.size a1 a2 c1 c2 H b _ (cellN w _ _ 0) (cellN w _ _ 1) (Hh.below ((Below.refl _ _).alloc (Nat.le_refl _) _)) (Hb.below ((Below.refl _ _).alloc (Nat.le_refl _) _)) (by omega) (by omega)).mono ?_
    rintro e w1 ⟨⟨v, rfl, hown⟩, hb⟩
    have hr := hown.rd
    have hbw := kept_below hb
    clear hb hown hHl
    go_wp2
    go_ret
    exact ⟨⟨_, rfl, by rw [HL.out]; exact hr⟩, hbw⟩

set_option maxRecDepth 100000 in
theorem wreq_calls (m t : ByteArray) (n : Int) (vf : Value) (fr : Bool) (vb : Value) (x : List Fld) (b : List UInt8) (w : World) (hE : EnvP w) (hm : m.size ≤ 10000000) (ht : t.size ≤ 10000000) (Hf : RdF w vf x) (Hb : RdB w vb b) (hx : fsize x ≤ 2000000) (hb : b.length ≤ 100000000) :
    Calls Tryd.prog 48 #[.agg #[.string m, .string t, .int .i64 n, vf, .bool fr, vb]] w fun e w' => (∃ v, e = .returned v ∧ RdB w' v (msgB (headB (fmtReq m t n) x) b)) ∧ Below w.heap.size w w' := by
  have HB0 := (Below.refl w.heap.size w).alloc (Nat.le_refl _) (.cells #[.string m, .string t, .int .i64 n, vf, .bool fr, vb] 27)
  have CH := Lib.hid (fun w hE Hf => hfmtReq_calls m t n vf fr vb x w hE hm ht Hf hx)
  have hln := headB_length (fmtReq m t n) x
  have hls := fmtReq_size m t n
  have hl2 : (headB (fmtReq m t n) x).length ≤ 100000000 := by unfold fsize at hx; omega
  generalize headB (fmtReq m t n) x = H at CH hl2 ⊢
  clear hln hls
  obtain ⟨af, cf, rfl, p1, p2, p3, p4⟩ := id Hf
  obtain ⟨ab, cb, rfl, q1, q2, q3, q4⟩ := id Hb
  have H0 := Lib.hid (heap_alloc_new w (.cells #[.string m, .string t, .int .i64 n, .slice af x.length cf, .bool fr, .slice ab b.length cb] 27))
  go_enter Tryd.func48, Tryd.ntmps48
  go_wp2_with fail
  go_region_held3 (fun w' => w'.cell? ⟨w.heap.size, 0, none⟩ = some (.string m) ∧ w'.cell? ⟨w.heap.size, 1, none⟩ = some (.string t) ∧ w'.cell? ⟨w.heap.size, 2, none⟩ = some (.int .i64 n) ∧ w'.cell? ⟨w.heap.size, 3, none⟩ = some (.slice af x.length cf) ∧ w'.cell? ⟨w.heap.size, 4, none⟩ = some (.bool fr) ∧ w'.cell? ⟨w.heap.size, 5, none⟩ = some (.slice ab b.length cb)) (first | exact hc3 | go_keep) (first
    | (go_at_call 83; refine (CH.out _ (hE.below HB0.drew) (Hf.below HB0.drew)).mono ?_; rintro e w3 ⟨⟨vh, rfl, hr3⟩, hb3⟩; have hb4 := of_drew hb3; obtain ⟨hc3, -, -⟩ := row6 (row_below H0.out hb4); have HB3 := Below.self_trans HB0 hb4; have hf3 := Hb.below HB3)
    | (go_at_call 82; refine (message_calls _ _ H b _ hr3 hf3 hl2 hb).mono ?_; rintro e w5 ⟨⟨v, rfl, hr⟩, hb5⟩; have hb6 := Below.self_trans hb4 hb5; obtain ⟨hc3, -, -⟩ := row6 (row_below H0.out hb6); have HB5 := Below.self_trans HB3 hb5))
  all_goals
    go_wp2
    go_ret
    exact ⟨⟨_, rfl, hr⟩, HB5⟩

set_option maxRecDepth 100000 in
theorem wrep_calls (st : Int) (rs : ByteArray) (n : Int) (vf vb : Value) (x : List Fld) (b : List UInt8) (w : World) (hE : EnvP w) (hm : rs.size ≤ 10000000) (Hf : RdF w vf x) (Hb : RdB w vb b) (hx : fsize x ≤ 2000000) (hb : b.length ≤ 100000000) :
    Calls Tryd.prog 50 #[.agg #[.int .i64 st, .string rs, .int .i64 n, vf, vb]] w fun e w' => (∃ v, e = .returned v ∧ RdB w' v (msgB (headB (fmtSt st rs n) x) b)) ∧ Below w.heap.size w w' := by
  have HB0 := (Below.refl w.heap.size w).alloc (Nat.le_refl _) (.cells #[.int .i64 st, .string rs, .int .i64 n, vf, vb] 43)
  have CH := Lib.hid (fun w hE Hf => hfmtRep_calls st rs n vf vb x w hE hm Hf hx)
  have hln := headB_length (fmtSt st rs n) x
  have hls := fmtSt_size st n rs
  have hl2 : (headB (fmtSt st rs n) x).length ≤ 100000000 := by unfold fsize at hx; omega
  generalize headB (fmtSt st rs n) x = H at CH hl2 ⊢
  clear hln hls
  obtain ⟨af, cf, rfl, p1, p2, p3, p4⟩ := id Hf
  obtain ⟨ab, cb, rfl, q1, q2, q3, q4⟩ := id Hb
  have H0 := Lib.hid (heap_alloc_new w (.cells #[.int .i64 st, .string rs, .int .i64 n, .slice af x.length cf, .slice ab b.length cb] 43))
  go_enter Tryd.func50, Tryd.ntmps50
  go_wp2_with fail
  go_region_held3 (fun w' => w'.cell? ⟨w.heap.size, 0, none⟩ = some (.int .i64 st) ∧ w'.cell? ⟨w.heap.size, 1, none⟩ = some (.string rs) ∧ w'.cell? ⟨w.heap.size, 2, none⟩ = some (.int .i64 n) ∧ w'.cell? ⟨w.heap.size, 3, none⟩ = some (.slice af x.length cf) ∧ w'.cell? ⟨w.heap.size, 4, none⟩ = some (.slice ab b.length cb)) (first | exact hc3 | go_keep) (first
    | (go_at_call 85; refine (CH.out _ (hE.below HB0.drew) (Hf.below HB0.drew)).mono ?_; rintro e w3 ⟨⟨vh, rfl, hr3⟩, hb3⟩; have hb4 := of_drew hb3; obtain ⟨hc3, -, -⟩ := row5 (row_below H0.out hb4); have HB3 := Below.self_trans HB0 hb4; have hf3 := Hb.below HB3)
    | (go_at_call 82; refine (message_calls _ _ H b _ hr3 hf3 hl2 hb).mono ?_; rintro e w5 ⟨⟨v, rfl, hr⟩, hb5⟩; have hb6 := Below.self_trans hb4 hb5; obtain ⟨hc3, -, -⟩ := row5 (row_below H0.out hb6); have HB5 := Below.self_trans HB3 hb5))
  all_goals
    go_wp2
    go_ret
    exact ⟨⟨_, rfl, hr⟩, HB5⟩

set_option maxRecDepth 100000 in
theorem refWreq_calls (m t : ByteArray) (n : Int) (vf : Value) (fr : Bool) (vb : Value) (x : List Fld) (b : List UInt8) (w : World) (hm : m.size ≤ 10000000) (ht : t.size ≤ 10000000) (Hf : RdF w vf x) (Hb : RdB w vb b) (hx : fsize x ≤ 2000000) (hb : b.length ≤ 100000000) :
    Calls Tryd.prog 49 #[.agg #[.string m, .string t, .int .i64 n, vf, .bool fr, vb]] w fun e w' => (∃ v, e = .returned v ∧ RdB w' v (msgB (headB (fmtReq m t n) x) b)) ∧ Below w.heap.size w w' := by
  have HB0 := (Below.refl w.heap.size w).alloc (Nat.le_refl _) (.cells #[.string m, .string t, .int .i64 n, vf, .bool fr, vb] 27)
  have CH := Lib.hid (refHeadReq_calls m t n vf fr vb x _ hm ht (Hf.below HB0) hx)
  have hln := headB_length (fmtReq m t n) x
  have hls := fmtReq_size m t n
  have hl2 : (headB (fmtReq m t n) x).length ≤ 100000000 := by unfold fsize at hx; omega
  generalize headB (fmtReq m t n) x = H at CH hl2 ⊢
  clear hln hls
  obtain ⟨ab, cb, rfl, q1, q2, q3, q4⟩ := id Hb
  go_enter Tryd.func49, Tryd.ntmps49
  go_wp2_with fail
  refine CH.out.mono ?_
  rintro e w1 ⟨⟨vh, rfl, ho⟩, hb1⟩
  have c5 := (keptN hb1 5).1
  have HB1 := Below.self_trans HB0 hb1
  have hr1 := q4.below HB1
  rcases ho with ⟨rfl, rfl⟩ | hm
  · clear hb1
    go_wp2
    go_ret
    exact ⟨⟨_, rfl, RdB_nil _⟩, HB1⟩
  · obtain ⟨g, ch, rfl, m1, m2, m3, m4, m5, m6⟩ := id hm
    cases H with
    | nil =>
      clear hb1
      go_wp2
      go_ret
      exact ⟨⟨_, rfl, RdB_nil _⟩, HB1⟩
    | cons h0 hl =>
      have e0 : (((h0 :: hl).length : Int) == 0) = false := by simp only [List.length_cons]; rw [beq_eq_false_iff_ne]; omega
      have HM := Lib.hid (hm.mono (Nat.le_of_lt (show w.heap.size < (w.alloc (.cells #[.string m, .string t, .int .i64 n, vf, .bool fr, .slice ab b.length cb] 27)).heap.size by simp)))
      have hbw : w.heap.size ≤ w1.heap.size := HB1.size
      have HL := Lib.hid (show msgB (h0 :: hl) b = (h0 :: hl) ++ b from rfl)
      generalize hHl : h0 :: hl = H2 at e0 HM HL hl2 ⊢
      have HHL := Lib.hid hHl
      clear hb1 hm m1 m2 m3 m4 m5 m6 CH hHl
      go_wp2_with (at_builtin; refine wpList_append_mut rfl (.tmp 9) (.tmp 11) 25 rfl HB1 hbw 5 Tryd.underlying25 info_u8 _ H2 rfl HM.out ab b.length cb b rfl rfl q3 q1 hr1 (by omega) ?_; intro v' w2 hb2 hm2)
      go_ret
      exact ⟨⟨_, rfl, by rw [HHL.out, HL.out]; exact hm2.rd⟩, hb2⟩

set_option maxRecDepth 100000 in
theorem refWrep_calls (st : Int) (rs : ByteArray) (n : Int) (vf vb : Value) (x : List Fld) (b : List UInt8) (w : World) (hm : rs.size ≤ 10000000) (Hf : RdF w vf x) (Hb : RdB w vb b) (hx : fsize x ≤ 2000000) (hb : b.length ≤ 100000000) :
    Calls Tryd.prog 51 #[.agg #[.int .i64 st, .string rs, .int .i64 n, vf, vb]] w fun e w' => (∃ v, e = .returned v ∧ RdB w' v (msgB (headB (fmtSt st rs n) x) b)) ∧ Below w.heap.size w w' := by
  have HB0 := (Below.refl w.heap.size w).alloc (Nat.le_refl _) (.cells #[.int .i64 st, .string rs, .int .i64 n, vf, vb] 43)
  have CH := Lib.hid (refHeadRep_calls st rs n vf vb x _ hm (Hf.below HB0) hx)
  have hln := headB_length (fmtSt st rs n) x
  have hls := fmtSt_size st n rs
  have hl2 : (headB (fmtSt st rs n) x).length ≤ 100000000 := by unfold fsize at hx; omega
  generalize headB (fmtSt st rs n) x = H at CH hl2 ⊢
  clear hln hls
  obtain ⟨ab, cb, rfl, q1, q2, q3, q4⟩ := id Hb
  go_enter Tryd.func51, Tryd.ntmps51
  go_wp2_with fail
  refine CH.out.mono ?_
  rintro e w1 ⟨⟨vh, rfl, ho⟩, hb1⟩
  have c5 := (keptN hb1 4).1
  have HB1 := Below.self_trans HB0 hb1
  have hr1 := q4.below HB1
  rcases ho with ⟨rfl, rfl⟩ | hm
  · clear hb1
    go_wp2
    go_ret
    exact ⟨⟨_, rfl, RdB_nil _⟩, HB1⟩
  · obtain ⟨g, ch, rfl, m1, m2, m3, m4, m5, m6⟩ := id hm
    cases H with
    | nil =>
      clear hb1
      go_wp2
      go_ret
      exact ⟨⟨_, rfl, RdB_nil _⟩, HB1⟩
    | cons h0 hl =>
      have e0 : (((h0 :: hl).length : Int) == 0) = false := by simp only [List.length_cons]; rw [beq_eq_false_iff_ne]; omega
      have HM := Lib.hid (hm.mono (Nat.le_of_lt (show w.heap.size < (w.alloc (.cells #[.int .i64 st, .string rs, .int .i64 n, vf, .slice ab b.length cb] 43)).heap.size by simp)))
      have hbw : w.heap.size ≤ w1.heap.size := HB1.size
      have HL := Lib.hid (show msgB (h0 :: hl) b = (h0 :: hl) ++ b from rfl)
      generalize hHl : h0 :: hl = H2 at e0 HM HL hl2 ⊢
      have HHL := Lib.hid hHl
      clear hb1 hm m1 m2 m3 m4 m5 m6 CH hHl
      go_wp2_with (at_builtin; refine wpList_append_mut rfl (.tmp 9) (.tmp 11) 25 rfl HB1 hbw 5 Tryd.underlying25 info_u8 _ H2 rfl HM.out ab b.length cb b rfl rfl q3 q1 hr1 (by omega) ?_; intro v' w2 hb2 hm2)
      go_ret
      exact ⟨⟨_, rfl, by rw [HHL.out, HL.out]; exact hm2.rd⟩, hb2⟩
end Go.Proofs.YtajohphiclbjkaaDoorRR

/-! ### awake of the law package 12 -/
namespace Go.Proofs.YtajohphiclbjkaaDoorRR
open Go.RowKit Go.Own
set_option linter.unusedVariables false
set_option maxHeartbeats 2000000

def F3 : List Fld := [⟨sCT, sTP⟩, ⟨sCL, ⟨#[51]⟩⟩, ⟨⟨#[88]⟩, ⟨#[121]⟩⟩]
def lit12 : List UInt8 := [72, 84, 84, 80, 47, 49, 46, 49, 32, 52, 48, 52, 32, 78, 111, 116, 32, 70, 111, 117, 110, 100, 13, 10, 67, 111, 110, 116, 101, 110, 116, 45, 84, 121, 112, 101, 58, 32, 116, 101, 120, 116, 47, 112, 108, 97, 105, 110, 13, 10, 67, 111, 110, 116, 101, 110, 116, 45, 76, 101, 110, 103, 116, 104, 58, 32, 51, 13, 10, 88, 58, 32, 121, 13, 10, 13, 10, 110, 111, 10]
theorem make12 : makeF sTP 3 [⟨⟨#[88]⟩, ⟨#[121]⟩⟩] = F3 := by
  have h : bs (digs 10 3) = ⟨#[51]⟩ := by rw [digs_small (by omega)]; decide
  unfold makeF; rw [h]; rfl
theorem reason404 : reasonOf 404 = ⟨#[78, 111, 116, 32, 70, 111, 117, 110, 100]⟩ := by decide +kernel
theorem valid12 : F3.all validF = true := by decide +kernel
theorem fmt12 : fmtSt 404 ⟨#[78, 111, 116, 32, 70, 111, 117, 110, 100]⟩ 1 = bs [72, 84, 84, 80, 47, 49, 46, 49, 32, 52, 48, 52, 32, 78, 111, 116, 32, 70, 111, 117, 110, 100] := by
  refine bl_inj ?_
  obtain ⟨k, hk, k1, k2, v, hv, hb⟩ := fmtSt_bl (st := 404) (n := 1) (r := ⟨#[78, 111, 116, 32, 70, 111, 117, 110, 100]⟩) (by decide +kernel)
  rw [hb]
  obtain rfl : k = 404 := by omega
  rcases hv with ⟨-, h⟩ | ⟨rfl, -⟩
  · omega
  · rfl
theorem bytes12 : msgB (headB (fmtSt 404 ⟨#[78, 111, 116, 32, 70, 111, 117, 110, 100]⟩ 1) F3) [110, 111, 10] = lit12 := by
  rw [fmt12, headB_ok (by decide +kernel) valid12]
  decide +kernel

theorem c12a (vm : Value) (w : World) (hE : EnvW w) (Hm : RdF w vm [⟨⟨#[88]⟩, ⟨#[121]⟩⟩]) :
    Calls Tryd.prog 43 #[.int .i64 404, .string ⟨#[110, 111, 10]⟩, vm] w fun e w' => (∃ vf vb, e = .returned (.agg #[.int .i64 404, .string ⟨#[78, 111, 116, 32, 70, 111, 117, 110, 100]⟩, .int .i64 1, vf, vb]) ∧ RdF w' vf F3 ∧ RdB w' vb [110, 111, 10]) ∧ Below w.heap.size w w' := by
  refine (text_calls12 404 ⟨#[110, 111, 10]⟩ vm _ w hE Hm (by decide) (by decide)).mono ?_
  rintro e w' ⟨⟨vf, vb, rfl, hf, hm⟩, hb⟩
  rw [reason404]
  refine ⟨⟨vf, vb, rfl, ?_, hm.rd⟩, hb⟩
  have h := hf.rd
  rw [show (⟨#[110, 111, 10]⟩ : ByteArray).size = 3 from rfl, make12] at h
  exact h
theorem c12b (vf vb : Value) (w : World) (hE : EnvP w) (Hf : RdF w vf F3) (Hb : RdB w vb [110, 111, 10]) :
    Calls Tryd.prog 50 #[.agg #[.int .i64 404, .string ⟨#[78, 111, 116, 32, 70, 111, 117, 110, 100]⟩, .int .i64 1, vf, vb]] w fun e w' => (∃ v, e = .returned v ∧ RdB w' v lit12) ∧ Below w.heap.size w w' := by
  refine (wrep_calls 404 _ 1 vf vb F3 _ w hE (by decide) Hf Hb (by decide +kernel) (by decide)).mono ?_
  rintro e w' ⟨⟨v, rfl, hr⟩, hb⟩
  rw [bytes12] at hr
  exact ⟨⟨v, rfl, hr⟩, hb⟩

set_option maxRecDepth 100000 in
theorem awake12_calls (w : World) (hE : EnvW w) : Calls Tryd.prog 47 #[] w fun e w' => e = .returned (.bool true) ∧ Below w.heap.size w w' := by
  have HB0 := (Below.refl w.heap.size w).alloc (Nat.le_refl _) (.cells #[.string ⟨#[88]⟩, .string ⟨#[121]⟩] 62)
  have CA := Lib.hid (fun vm w hE Hm => c12a vm w hE Hm)
  have CB := Lib.hid (fun vf vb w hE Hf Hb => c12b vf vb w hE Hf Hb)
  go_enter Tryd.func47, Tryd.ntmps47
  go_wp2_with fail
  refine (CA.out _ _ (hE.below HB0) (rdf_new' w [⟨⟨#[88]⟩, ⟨#[121]⟩⟩] _ _ _ rfl rfl rfl (by simp))).mono ?_
  rintro e w1 ⟨⟨vf, vb, rfl, hf, hm⟩, hb⟩
  have HB1 := Below.self_trans HB0 hb
  obtain ⟨af, cf, rfl, -, -, -, hcf⟩ := id hf
  obtain ⟨ab, cb, rfl, -, -, -, hcb⟩ := id hm
  obtain ⟨b, off, rfl, d2, d3⟩ := RdC.fld (l := F3) hcf 1 (by decide)
  have g2 : ∀ o : Obj, (w1.alloc o).cell? ⟨b, off + 2, none⟩ = some (.string ⟨#[67, 111, 110, 116, 101, 110, 116, 45, 76, 101, 110, 103, 116, 104]⟩) := fun o => cell_below ((Below.refl _ _).alloc (Nat.le_refl _) o) d2
  have g3 : ∀ o : Obj, (w1.alloc o).cell? ⟨b, off + 2 + 1, none⟩ = some (.string ⟨#[51]⟩) := fun o => cell_below ((Below.refl _ _).alloc (Nat.le_refl _) o) d3
  have HF := Lib.hid hf
  have HM := Lib.hid hm
  clear hb hf hm hcf hcb d2 d3
  go_wp2_with fail
  have HB2 := HB1.alloc HB1.size (.cells #[.int .i64 404, .string ⟨#[78, 111, 116, 32, 70, 111, 117, 110, 100]⟩, .int .i64 1, .slice (some ⟨b, off, none⟩) 3 cf, .slice ab 3 cb] 43)
  refine (CB.out _ _ _ (hE.p.below HB2) (RdF.below HF.out ((Below.refl _ _).alloc (Nat.le_refl _) _)) (RdB.below HM.out ((Below.refl _ _).alloc (Nat.le_refl _) _))).mono ?_
  rintro e w2 ⟨⟨v, rfl, hr⟩, hb2⟩
  have HB3 := Below.self_trans HB2 hb2
  obtain ⟨al, cl, rfl, -, -, -, hcl⟩ := hr
  clear hb2 g2 g3 HF HM
  go_wp2_with (refine wpList_bytesstr rfl 25 9 _ rfl _ _ _ rfl 5 Tryd.underlying25 Tryd.underlying5 Tryd.underlying9 lit12 rfl hcl ?_)
  go_ret
  exact ⟨ret_bool (by decide +kernel), HB3⟩
end Go.Proofs.YtajohphiclbjkaaDoorRR
