/- Messages with their bodies: Request and Reply of package writer and of its reference. -/
import Derived.Test.YtajohphiclbjkaaDoorRRHeadF
import Derived.Test.YtajohphiclbjkaaDoorRRHeadR
import Derived.Test.YtajohphiclbjkaaDoorRRConB
namespace Go.Proofs.YtajohphiclbjkaaDoorRR
open Go.RowKit Go.Own
set_option linter.unusedVariables false
set_option maxHeartbeats 2000000

/-- a head followed by a body; nothing where there is no head -/
def msgB (h b : List UInt8) : List UInt8 := if h.isEmpty then [] else h ++ b

theorem message_calls (vh vb : Value) (h b : List UInt8) (w : World) (Hh : RdB w vh h) (Hb : RdB w vb b) (h1 : h.length ≤ 100000000) (h2 : b.length ≤ 100000000) :
    Calls Tryd.prog 82 #[vh, vb] w fun e w' => (∃ v, e = .returned v ∧ RdB w' v (msgB h b)) ∧ Below w.heap.size w w' := by
  obtain ⟨a1, c1, rfl, p1, p2, p3, p4⟩ := id Hh
  obtain ⟨a2, c2, rfl, q1, q2, q3, q4⟩ := id Hb
  cases h with
  | nil =>
    go_enter Tryd.func82, Tryd.ntmps82
    go_wp2
    go_ret
    exact ⟨⟨_, rfl, RdB_nil _⟩, Below.refl _ _⟩
  | cons h0 hl =>
    have e0 : (((h0 :: hl).length : Int) == 0) = false := by simp only [List.length_cons]; rw [beq_eq_false_iff_ne]; omega
    have HL := Lib.hid (show msgB (h0 :: hl) b = (h0 :: hl) ++ b from rfl)
    generalize hHl : h0 :: hl = H at *
    go_enter Tryd.func82, Tryd.ntmps82
    go_wp2_with fail
    refine (concatB_calls w.heap.size a1 a2 c1 c2 H b _ (cellN w _ _ 0) (cellN w _ _ 1) (Hh.below ((Below.refl _ _).alloc (Nat.le_refl _) _)) (Hb.below ((Below.refl _ _).alloc (Nat.le_refl _) _)) (by omega) (by omega)).mono ?_
    rintro e w1 ⟨⟨v, rfl, hown⟩, hb⟩
    have hr := hown.rd
    have hbw := kept_below hb
    clear hb hown hHl
    go_wp2
    go_ret
    exact ⟨⟨_, rfl, by rw [HL.out]; exact hr⟩, hbw⟩

set_option maxRecDepth 100000 in
theorem wreq_calls (m t : ByteArray) (n : Int) (vf : Value) (fr : Bool) (vb : Value) (x : List Fld) (b : List UInt8) (w : World) (hE : EnvP w) (hm : m.size ≤ 10000000) (ht : t.size ≤ 10000000) (Hf : RdF w vf x) (Hb : RdB w vb b) (hx : fsize x ≤ 2000000) (hb : b.length ≤ 100000000) :
    Calls Tryd.prog 48 #[.agg #[.string m, .string t, .int .i64 n, vf, .bool fr, vb]] w fun e w' => (∃ v, e = .returned v ∧ RdB w' v (msgB (headB (fmtReq m t n) x) b)) ∧ Below w.heap.size w w' := by
  have HB0 := (Below.refl w.heap.size w).alloc (Nat.le_refl _) (.cells #[.string m, .string t, .int .i64 n, vf, .bool fr, vb] 27)
  have CH := Lib.hid (fun w hE Hf => hfmtReq_calls m t n vf fr vb x w hE hm ht Hf hx)
  have hln := headB_length (fmtReq m t n) x
  have hls := fmtReq_size m t n
  have hl2 : (headB (fmtReq m t n) x).length ≤ 100000000 := by unfold fsize at hx; omega
  generalize headB (fmtReq m t n) x = H at CH hl2 ⊢
  clear hln hls
  obtain ⟨af, cf, rfl, p1, p2, p3, p4⟩ := id Hf
  obtain ⟨ab, cb, rfl, q1, q2, q3, q4⟩ := id Hb
  have H0 := Lib.hid (heap_alloc_new w (.cells #[.string m, .string t, .int .i64 n, .slice af x.length cf, .bool fr, .slice ab b.length cb] 27))
  go_enter Tryd.func48, Tryd.ntmps48
  go_wp2_with fail
  go_region_held3 (fun w' => w'.cell? ⟨w.heap.size, 0, none⟩ = some (.string m) ∧ w'.cell? ⟨w.heap.size, 1, none⟩ = some (.string t) ∧ w'.cell? ⟨w.heap.size, 2, none⟩ = some (.int .i64 n) ∧ w'.cell? ⟨w.heap.size, 3, none⟩ = some (.slice af x.length cf) ∧ w'.cell? ⟨w.heap.size, 4, none⟩ = some (.bool fr) ∧ w'.cell? ⟨w.heap.size, 5, none⟩ = some (.slice ab b.length cb)) (first | exact hc3 | go_keep) (first
    | (go_at_call 83; refine (CH.out _ (hE.below HB0.drew) (Hf.below HB0.drew)).mono ?_; rintro e w3 ⟨⟨vh, rfl, hr3⟩, hb3⟩; have hb4 := of_drew hb3; obtain ⟨hc3, -, -⟩ := row6 (row_below H0.out hb4); have HB3 := Below.self_trans HB0 hb4; have hf3 := Hb.below HB3)
    | (go_at_call 82; refine (message_calls _ _ H b _ hr3 hf3 hl2 hb).mono ?_; rintro e w5 ⟨⟨v, rfl, hr⟩, hb5⟩; have hb6 := Below.self_trans hb4 hb5; obtain ⟨hc3, -, -⟩ := row6 (row_below H0.out hb6); have HB5 := Below.self_trans HB3 hb5))
  all_goals
    go_wp2
    go_ret
    exact ⟨⟨_, rfl, hr⟩, HB5⟩

set_option maxRecDepth 100000 in
theorem wrep_calls (st : Int) (rs : ByteArray) (n : Int) (vf vb : Value) (x : List Fld) (b : List UInt8) (w : World) (hE : EnvP w) (hm : rs.size ≤ 10000000) (Hf : RdF w vf x) (Hb : RdB w vb b) (hx : fsize x ≤ 2000000) (hb : b.length ≤ 100000000) :
    Calls Tryd.prog 50 #[.agg #[.int .i64 st, .string rs, .int .i64 n, vf, vb]] w fun e w' => (∃ v, e = .returned v ∧ RdB w' v (msgB (headB (fmtSt st rs n) x) b)) ∧ Below w.heap.size w w' := by
  have HB0 := (Below.refl w.heap.size w).alloc (Nat.le_refl _) (.cells #[.int .i64 st, .string rs, .int .i64 n, vf, vb] 43)
  have CH := Lib.hid (fun w hE Hf => hfmtRep_calls st rs n vf vb x w hE hm Hf hx)
  have hln := headB_length (fmtSt st rs n) x
  have hls := fmtSt_size st n rs
  have hl2 : (headB (fmtSt st rs n) x).length ≤ 100000000 := by unfold fsize at hx; omega
  generalize headB (fmtSt st rs n) x = H at CH hl2 ⊢
  clear hln hls
  obtain ⟨af, cf, rfl, p1, p2, p3, p4⟩ := id Hf
  obtain ⟨ab, cb, rfl, q1, q2, q3, q4⟩ := id Hb
  have H0 := Lib.hid (heap_alloc_new w (.cells #[.int .i64 st, .string rs, .int .i64 n, .slice af x.length cf, .slice ab b.length cb] 43))
  go_enter Tryd.func50, Tryd.ntmps50
  go_wp2_with fail
  go_region_held3 (fun w' => w'.cell? ⟨w.heap.size, 0, none⟩ = some (.int .i64 st) ∧ w'.cell? ⟨w.heap.size, 1, none⟩ = some (.string rs) ∧ w'.cell? ⟨w.heap.size, 2, none⟩ = some (.int .i64 n) ∧ w'.cell? ⟨w.heap.size, 3, none⟩ = some (.slice af x.length cf) ∧ w'.cell? ⟨w.heap.size, 4, none⟩ = some (.slice ab b.length cb)) (first | exact hc3 | go_keep) (first
    | (go_at_call 85; refine (CH.out _ (hE.below HB0.drew) (Hf.below HB0.drew)).mono ?_; rintro e w3 ⟨⟨vh, rfl, hr3⟩, hb3⟩; have hb4 := of_drew hb3; obtain ⟨hc3, -, -⟩ := row5 (row_below H0.out hb4); have HB3 := Below.self_trans HB0 hb4; have hf3 := Hb.below HB3)
    | (go_at_call 82; refine (message_calls _ _ H b _ hr3 hf3 hl2 hb).mono ?_; rintro e w5 ⟨⟨v, rfl, hr⟩, hb5⟩; have hb6 := Below.self_trans hb4 hb5; obtain ⟨hc3, -, -⟩ := row5 (row_below H0.out hb6); have HB5 := Below.self_trans HB3 hb5))
  all_goals
    go_wp2
    go_ret
    exact ⟨⟨_, rfl, hr⟩, HB5⟩

set_option maxRecDepth 100000 in
theorem refWreq_calls (m t : ByteArray) (n : Int) (vf : Value) (fr : Bool) (vb : Value) (x : List Fld) (b : List UInt8) (w : World) (hm : m.size ≤ 10000000) (ht : t.size ≤ 10000000) (Hf : RdF w vf x) (Hb : RdB w vb b) (hx : fsize x ≤ 2000000) (hb : b.length ≤ 100000000) :
    Calls Tryd.prog 49 #[.agg #[.string m, .string t, .int .i64 n, vf, .bool fr, vb]] w fun e w' => (∃ v, e = .returned v ∧ RdB w' v (msgB (headB (fmtReq m t n) x) b)) ∧ Below w.heap.size w w' := by
  have HB0 := (Below.refl w.heap.size w).alloc (Nat.le_refl _) (.cells #[.string m, .string t, .int .i64 n, vf, .bool fr, vb] 27)
  have CH := Lib.hid (refHeadReq_calls m t n vf fr vb x _ hm ht (Hf.below HB0) hx)
  have hln := headB_length (fmtReq m t n) x
  have hls := fmtReq_size m t n
  have hl2 : (headB (fmtReq m t n) x).length ≤ 100000000 := by unfold fsize at hx; omega
  generalize headB (fmtReq m t n) x = H at CH hl2 ⊢
  clear hln hls
  obtain ⟨ab, cb, rfl, q1, q2, q3, q4⟩ := id Hb
  go_enter Tryd.func49, Tryd.ntmps49
  go_wp2_with fail
  refine CH.out.mono ?_
  rintro e w1 ⟨⟨vh, rfl, ho⟩, hb1⟩
  have c5 := (keptN hb1 5).1
  have HB1 := Below.self_trans HB0 hb1
  have hr1 := q4.below HB1
  rcases ho with ⟨rfl, rfl⟩ | hm
  · clear hb1
    go_wp2
    go_ret
    exact ⟨⟨_, rfl, RdB_nil _⟩, HB1⟩
  · obtain ⟨g, ch, rfl, m1, m2, m3, m4, m5, m6⟩ := id hm
    cases H with
    | nil =>
      clear hb1
      go_wp2
      go_ret
      exact ⟨⟨_, rfl, RdB_nil _⟩, HB1⟩
    | cons h0 hl =>
      have e0 : (((h0 :: hl).length : Int) == 0) = false := by simp only [List.length_cons]; rw [beq_eq_false_iff_ne]; omega
      have HM := Lib.hid (hm.mono (Nat.le_of_lt (show w.heap.size < (w.alloc (.cells #[.string m, .string t, .int .i64 n, vf, .bool fr, .slice ab b.length cb] 27)).heap.size by simp)))
      have hbw : w.heap.size ≤ w1.heap.size := HB1.size
      have HL := Lib.hid (show msgB (h0 :: hl) b = (h0 :: hl) ++ b from rfl)
      generalize hHl : h0 :: hl = H2 at e0 HM HL hl2 ⊢
      have HHL := Lib.hid hHl
      clear hb1 hm m1 m2 m3 m4 m5 m6 CH hHl
      go_wp2_with (at_builtin; refine wpList_append_mut rfl (.tmp 9) (.tmp 11) 25 rfl HB1 hbw 5 Tryd.underlying25 info_u8 _ H2 rfl HM.out ab b.length cb b rfl rfl q3 q1 hr1 (by omega) ?_; intro v' w2 hb2 hm2)
      go_ret
      exact ⟨⟨_, rfl, by rw [HHL.out, HL.out]; exact hm2.rd⟩, hb2⟩

set_option maxRecDepth 100000 in
theorem refWrep_calls (st : Int) (rs : ByteArray) (n : Int) (vf vb : Value) (x : List Fld) (b : List UInt8) (w : World) (hm : rs.size ≤ 10000000) (Hf : RdF w vf x) (Hb : RdB w vb b) (hx : fsize x ≤ 2000000) (hb : b.length ≤ 100000000) :
    Calls Tryd.prog 51 #[.agg #[.int .i64 st, .string rs, .int .i64 n, vf, vb]] w fun e w' => (∃ v, e = .returned v ∧ RdB w' v (msgB (headB (fmtSt st rs n) x) b)) ∧ Below w.heap.size w w' := by
  have HB0 := (Below.refl w.heap.size w).alloc (Nat.le_refl _) (.cells #[.int .i64 st, .string rs, .int .i64 n, vf, vb] 43)
  have CH := Lib.hid (refHeadRep_calls st rs n vf vb x _ hm (Hf.below HB0) hx)
  have hln := headB_length (fmtSt st rs n) x
  have hls := fmtSt_size st n rs
  have hl2 : (headB (fmtSt st rs n) x).length ≤ 100000000 := by unfold fsize at hx; omega
  generalize headB (fmtSt st rs n) x = H at CH hl2 ⊢
  clear hln hls
  obtain ⟨ab, cb, rfl, q1, q2, q3, q4⟩ := id Hb
  go_enter Tryd.func51, Tryd.ntmps51
  go_wp2_with fail
  refine CH.out.mono ?_
  rintro e w1 ⟨⟨vh, rfl, ho⟩, hb1⟩
  have c5 := (keptN hb1 4).1
  have HB1 := Below.self_trans HB0 hb1
  have hr1 := q4.below HB1
  rcases ho with ⟨rfl, rfl⟩ | hm
  · clear hb1
    go_wp2
    go_ret
    exact ⟨⟨_, rfl, RdB_nil _⟩, HB1⟩
  · obtain ⟨g, ch, rfl, m1, m2, m3, m4, m5, m6⟩ := id hm
    cases H with
    | nil =>
      clear hb1
      go_wp2
      go_ret
      exact ⟨⟨_, rfl, RdB_nil _⟩, HB1⟩
    | cons h0 hl =>
      have e0 : (((h0 :: hl).length : Int) == 0) = false := by simp only [List.length_cons]; rw [beq_eq_false_iff_ne]; omega
      have HM := Lib.hid (hm.mono (Nat.le_of_lt (show w.heap.size < (w.alloc (.cells #[.int .i64 st, .string rs, .int .i64 n, vf, .slice ab b.length cb] 43)).heap.size by simp)))
      have hbw : w.heap.size ≤ w1.heap.size := HB1.size
      have HL := Lib.hid (show msgB (h0 :: hl) b = (h0 :: hl) ++ b from rfl)
      generalize hHl : h0 :: hl = H2 at e0 HM HL hl2 ⊢
      have HHL := Lib.hid hHl
      clear hb1 hm m1 m2 m3 m4 m5 m6 CH hHl
      go_wp2_with (at_builtin; refine wpList_append_mut rfl (.tmp 9) (.tmp 11) 25 rfl HB1 hbw 5 Tryd.underlying25 info_u8 _ H2 rfl HM.out ab b.length cb b rfl rfl q3 q1 hr1 (by omega) ?_; intro v' w2 hb2 hm2)
      go_ret
      exact ⟨⟨_, rfl, by rw [HHL.out, HL.out]; exact hm2.rd⟩, hb2⟩
end Go.Proofs.YtajohphiclbjkaaDoorRR
