/- The lines of a head: lines of package head. -/
import Derived.Test.YtglljdhhgmgbgaaDoorHeadE
import Derived.Test.YtglljdhhgmgbgaaDoorHeadS
import Derived.Test.YtglljdhhgmgbgaaDoorAny
import Derived.Test.YtglljdhhgmgbgaaDoorSplit
namespace Go.Proofs.YtglljdhhgmgbgaaDoor
open Go.RowKit Go.Own
set_option linter.unusedVariables false
set_option maxHeartbeats 2000000

theorem splitB_two (s : ByteArray) : Lib.splitB ⟨#[13, 10]⟩ 0 (Lib.countB s ⟨#[13, 10]⟩) s = (pieces (bl s)).map bs := by
  have h := Lib.splitB_data ⟨#[13, 10]⟩ 0 (Lib.countB s ⟨#[13, 10]⟩) s
  have h2 : (Lib.splitB ⟨#[13, 10]⟩ 0 (Lib.countB s ⟨#[13, 10]⟩) s).map (·.data.toList) = pieces (bl s) := h
  rw [← h2]
  exact (map_bs_bl _).symm
/-- strings.Split at CR LF -/
theorem split2_calls (s : ByteArray) (w : World) (hE : Env w) (hs : s.size < 4294967281) :
    Calls Tryd.prog 17 #[.string s, .string ⟨#[13, 10]⟩] w fun e w' => (∃ v, e = .returned v ∧ OwnS w.heap.size w' v ((pieces (bl s)).map bs)) ∧ Below w.heap.size w w' := by
  obtain ⟨m, hm⟩ := hE.max
  have one2 : 1 ≤ (⟨#[13, 10]⟩ : ByteArray).size := by decide
  refine (Tryd.strings_Split s ⟨#[13, 10]⟩ m w hs hm one2).mono ?_
  rintro e w' ⟨rfl, rfl⟩
  refine ⟨⟨_, rfl, ?_⟩, (Below.refl _ _).alloc (Nat.le_refl _) _⟩
  have hl : Lib.countB s ⟨#[13, 10]⟩ + 1 = ((pieces (bl s)).map bs).length := by
    rw [← splitB_two]
    exact (Lib.splitB_all _ one2 0 _ s rfl).symm
  rw [splitB_two, hl]
  have h := World.ownsRow_lit w (((pieces (bl s)).map bs).map Value.string).toArray (base := w.heap.size) (e := 9) (size := 1) ((pieces (bl s)).map bs).length (Nat.le_refl _) ?_ (by simp)
  · simpa [OwnS, strsV] using h
  · have := Lib.countB_le ⟨#[13, 10]⟩ one2 s.size s (Nat.le_refl _)
    rw [← hl]; simp [maxLen]; omega

theorem trim_end {b : List UInt8} (h : endP b = b.length) : Lib.trimSuffix b crlf2 = b.take (b.length - 4) := by
  have hw := end_whole h
  have hl := (endP_occ h).1
  unfold Lib.trimSuffix
  have : Lib.hasSuffix b crlf2 = true := by
    unfold Lib.hasSuffix
    rw [List.isSuffixOf_iff_suffix]
    exact ⟨b.take (b.length - 4), hw.symm⟩
  rw [if_pos this]; rfl
theorem pieces_len : ∀ (n : Nat) (l : List UInt8), l.length = n → ∀ p ∈ pieces l, p.length ≤ n := by
  intro n
  induction n using Nat.strongRecOn with
  | ind n ih =>
    intro l hn p hp
    rcases Lib.index_spec l crlf1 with ⟨h, -⟩ | ⟨i, h, -⟩
    · rw [pieces_miss h, List.mem_singleton] at hp
      rw [hp]; omega
    · have h2 := Lib.index_room l crlf1 (by omega)
      have h2' : (crlf1.length : Int) = 2 := rfl
      rw [pieces_hit h] at hp
      rcases List.mem_cons.1 hp with rfl | hp
      · rw [List.length_take]; omega
      · have := ih (l.drop (i + 2)).length (by rw [List.length_drop]; omega) _ rfl p hp
        rw [List.length_drop] at this
        omega

def LinesV (q : Option (List ByteArray)) (e : Ending) (w' : World) : Prop := match q with
  | some (s :: r) => ∃ v, e = .returned (.tuple #[.string s, v, .int .i64 0]) ∧ RdS w' v r
  | _ => e = .returned (.tuple #[.string .empty, .slice none 0 0, .int .i64 2])
theorem LinesV_none {b : List UInt8} {w' : World} (h : linesS b = none) : LinesV (linesS b) (.returned (.tuple #[.string .empty, .slice none 0 0, .int .i64 2])) w' := by rw [h]; rfl
theorem linesS_of {b : List UInt8} (h : linesP b = none) : linesS b = none := by unfold linesS; rw [h]; rfl
theorem RdS_tail {w : World} {a : Option Addr} {cap : Nat} {s : ByteArray} {r : List ByteArray} (h : RdC w a (strsV (s :: r))) (hl : r.length + 1 ≤ cap) (hm : cap ≤ maxLen) (v : Value) (hv : v = .slice (a.map fun x => x.add 1) r.length (cap - 1)) (ha : a ≠ none) : RdS w v r := by
  subst hv
  refine ⟨_, _, rfl, by omega, by omega, ?_, ?_⟩
  · cases a with
    | none => exact absurd rfl ha
    | some ad => intro h; cases h
  · have := RdC_sub h 1 r.length
    have e : ((strsV (s :: r)).drop 1).take r.length = strsV r := by
      simp only [strsV, List.map_cons, List.drop_succ_cons, List.drop_zero]
      exact List.take_of_length_le (by rw [List.length_map]; exact Nat.le_refl _)
    rwa [e] at this

set_option maxRecDepth 100000 in
theorem hlines_calls (v : Value) (b : List UInt8) (w : World) (hE : Env w) (H : RdB w v b) (hb : b.length ≤ 2000000) :
    Calls Tryd.prog 8 #[v] w fun e w' => LinesV (linesS b) e w' ∧ Below w.heap.size w w' := by
  obtain ⟨m, hm⟩ := hE.max
  have hsz : (⟨b.toArray⟩ : ByteArray).size = b.length := bs_size b
  have HI := Lib.hid (Tryd.strings_Index ⟨b.toArray⟩ ⟨#[13, 10, 13, 10]⟩ m w (by rw [hsz]; omega) hm)
  have hix : Lib.index (⟨b.toArray⟩ : ByteArray).data.toList (⟨#[13, 10, 13, 10]⟩ : ByteArray).data.toList = Lib.index b crlf2 := rfl
  rw [hix] at HI
  have HNO := Lib.hid (fun h w' => LinesV_none (b := b) (w' := w') (linesS_of (linesP_end h)))
  have HT := Lib.hid (Tryd.strings_TrimSuffix ⟨b.toArray⟩ ⟨#[13, 10, 13, 10]⟩ w (by rw [hsz]; omega))
  have hcv : ∀ a cap, v = .slice a b.length cap → (convert 26 9 (.slice a b.length cap)).run Tryd.prog w = .ok (.string ⟨b.toArray⟩) w := by
    intro a cap hv
    obtain ⟨a', cap', rfl, -, -, -, hc⟩ := H
    cases hv
    exact conv_bytes (P := Tryd.prog) (cap := cap) Tryd.underlying26 Tryd.underlying5 Tryd.underlying9 rfl hc
  obtain ⟨a, cap, rfl, h1, h2, h3, h4⟩ := H
  have hcv2 := hcv a cap rfl
  clear hcv
  have hS := Lib.hid (split2_calls (⟨(b.take (b.length - 4)).toArray⟩ : ByteArray) w hE (by show (bs _).size < _; rw [bs_size, List.length_take]; omega))
  clear h1 h2 h3 h4 hm hix
  rcases endP_cases b with ⟨hp, hi⟩ | ⟨i, hp, hi, hr⟩
  · have HR := Lib.hid (HNO.out (by rw [hp]; omega))
    rw [hi] at HI
    clear hp hi HNO HT hS hb
    generalize (⟨b.toArray⟩ : ByteArray) = s at hcv2 HI hsz
    go_enter Tryd.func8, Tryd.ntmps8
    go_wp2_with fail
    refine HI.out.mono ?_
    rintro e w1 ⟨rfl, hw⟩
    rw [hw]
    clear hw
    go_wp2
    exact bodyPost_ret (by simp [results, Tryd.results8, go_sem]; rfl) rfl ⟨HR.out _, Below.refl _ _⟩
  · rw [hi] at HI
    have h4 : b.length ≤ 2000000 := hb
    by_cases he : (i : Int) + 4 = (b.length : Int)
    · have hpe : endP b = b.length := by rw [hp]; omega
      have HD := Lib.hid (fun h w' => LinesV_none (b := b) (w' := w') (linesS_of (linesP_dirty h)))
      have HK := Lib.hid (fun h => linesP_ok hpe h)
      have htx : Lib.trimSuffix (⟨b.toArray⟩ : ByteArray).data.toList (⟨#[13, 10, 13, 10]⟩ : ByteArray).data.toList = b.take (b.length - 4) := trim_end hpe
      rw [htx] at HT
      clear htx
      have HPL := Lib.hid (pieces_len _ (b.take (b.length - 4)) rfl)
      obtain ⟨p0, pr, hp0⟩ := pieces_ne (b.take (b.length - 4))
      have HP0 := Lib.hid hp0
      have hne : ((i : Int) + 4 != (b.length : Int)) = false := by rw [bne_eq_false_iff_eq]; exact he
      have h0i : ¬ (i : Int) < 0 := by omega
      have hbt : (b.take (b.length - 4)).length ≤ 2000000 := by rw [List.length_take]; omega
      have hSl : (((b.take (b.length - 4)).toArray).toList) = b.take (b.length - 4) := rfl
      have hSb : bl (⟨(b.take (b.length - 4)).toArray⟩ : ByteArray) = b.take (b.length - 4) := rfl
      rw [hSb] at hS
      clear hSl hSb hp hi hr HNO hp0 hpe
      generalize b.take (b.length - 4) = t at HT hS HD HK HPL HP0 hbt
      generalize (⟨t.toArray⟩ : ByteArray) = ts at HT hS
      generalize hL : (pieces t).map bs = L at hS
      have HL := Lib.hid hL
      clear hL
      generalize (⟨b.toArray⟩ : ByteArray) = s at hcv2 HI hsz HT
      go_enter Tryd.func8, Tryd.ntmps8
      go_wp2_with fail
      refine HI.out.mono ?_
      rintro e w1 ⟨rfl, hw⟩
      rw [hw]
      clear hw
      go_wp2_with fail
      refine HT.out.mono ?_
      rintro e w1 ⟨rfl, hw⟩
      rw [hw]
      clear hw
      go_wp2_with fail
      refine hS.out.mono ?_
      rintro e w1 ⟨⟨v1, rfl, ho⟩, hb1⟩
      have HRD := Lib.hid (OwnS.rd ho)
      obtain ⟨a1, c1, rfl, g1, g2, g3⟩ := owned_slice ho
      have HG := Lib.hid (show L.length ≤ c1 ∧ c1 ≤ maxLen from ⟨g1, g2⟩)
      have hlm := Nat.le_trans g1 g2
      unfold maxLen at hlm
      have HM := Lib.hid (show ∀ x ∈ L, bl x ∈ pieces t from fun x hx => by
        rw [← HL.out] at hx
        obtain ⟨p, hp, rfl⟩ := List.mem_map.1 hx
        exact hp)
      have HS := Lib.hid (show L.all (fun x => clean (bl x)) = true → linesS b = some L from fun h => by
        have h2 : (pieces t).all clean = true := by
          rw [← HL.out, List.all_map] at h
          exact h
        unfold linesS
        rw [HK.out h2, Option.map_some, HL.out])
      obtain ⟨_, _, e1, -, -, -, hrd⟩ := HRD.out
      cases e1
      clear ho g1 g2 g3 HRD
      have HZ := Lib.hid (show ∀ x ∈ L, x.size < 4294967281 from fun x hx => by
        rw [← HL.out] at hx
        obtain ⟨p, hp, rfl⟩ := List.mem_map.1 hx
        rw [bs_size]
        have := HPL.out p hp
        omega)
      have hL0 : 0 < L.length := by rw [← HL.out, HP0.out]; simp
      go_wp2
      go_loopw [28] (fun i wr => ∃ k : Nat, k ≤ L.length ∧ i = .int .i64 k ∧ Below w.heap.size w wr ∧ Hid (RdC wr a1 (strsV L)) ∧ Hid ((L.take k).all (fun x => clean (bl x)) = true)) (fun i _ => L.length - (intOf i).toNat)
      case atStart => exact ⟨0, Nat.zero_le _, rfl, hb1, Lib.hid hrd, Lib.hid rfl⟩
      case round =>
        obtain ⟨k, hk, rfl, hB, HR, HC⟩ := hrel
        by_cases hlt : k < L.length
        · obtain ⟨g, off, rfl, hcell⟩ := HR.out.str k hlt
          have hki : (k : Int) < (L.length : Int) := by omega
          have hCA := Lib.hid (fun w => any_calls L[k] w (HZ.out _ (List.getElem_mem hlt)))
          cases hc : clean (bl L[k]) with
          | true =>
            rw [hc] at hCA
            have HC2 := Lib.hid (show (L.take (k + 1)).all (fun x => clean (bl x)) = true by rw [List.take_succ_eq_append_getElem hlt, List.all_append, HC.out]; simp [hc])
            clear hc HC
            go_wp2_with fail
            refine (hCA.out _).mono ?_
            rintro e w2 ⟨rfl, hb2⟩
            have hB2 := Below.self_trans hB hb2
            have HR2 := Lib.hid (HR.out.below hb2)
            clear hb2 hcell HR hB
            go_wp2
            go_roundw
            case rel => exact ⟨k + 1, by omega, by go_num, hB2, HR2, HC2⟩
            case measure => simp [intOf]; omega
          | false =>
            rw [hc] at hCA
            have HF := Lib.hid (HD.out (by
              rw [List.all_eq_false]
              exact ⟨bl L[k], HM.out _ (List.getElem_mem hlt), by simp [hc]⟩))
            clear hc HC
            go_wp2_with fail
            refine (hCA.out _).mono ?_
            rintro e w2 ⟨rfl, hb2⟩
            have hB2 := Below.self_trans hB hb2
            clear hb2 hcell HR hB
            go_wp2
            exact bodyPost_ret (by simp [results, Tryd.results8, go_sem]; rfl) rfl ⟨HF.out _, hB2⟩
        · have hki : ¬ (k : Int) < (L.length : Int) := by omega
          have HQ := Lib.hid (HS.out (by have := HC.out; rwa [List.take_of_length_le (by omega)] at this))
          obtain ⟨q1, q2⟩ := HG.out
          obtain ⟨s0, r, rfl⟩ : ∃ s0 r, L = s0 :: r := by
            cases L with
            | nil => simp at hL0
            | cons x y => exact ⟨x, y, rfl⟩
          obtain ⟨g, off, rfl, hcell⟩ := HR.out.str 0 hL0
          have hcell : wr.cell? ⟨g, off, none⟩ = some (.string s0) := hcell
          have hfin : ∀ V, RdS wr.drew V r → LinesV (linesS b) (.returned (.tuple #[.string s0, V, .int .i64 0])) wr.drew := fun V hV => by rw [HQ.out]; exact ⟨V, rfl, hV⟩
          have HF := Lib.hid hfin
          have HRR := Lib.hid HR.out
          clear HR HC HS HM HZ HK HD HPL HP0 HL hfin
          by_cases hc1 : c1 = 1
          · have hr0 : r = [] := List.eq_nil_of_length_eq_zero (by simp at q1; omega)
            subst hr0
            subst hc1
            go_wp2
            go_region
            go_wp2
            exact bodyPost_ret (v := .tuple #[.string s0, .slice (some ⟨g, off, none⟩) 0 0, .int .i64 0]) (by simp [results, Tryd.results8, go_sem]) rfl ⟨HF.out _ ⟨some ⟨g, off, none⟩, 0, rfl, Nat.le_refl _, Nat.zero_le _, fun h => rfl, fun k hk => absurd hk (Nat.not_lt_zero _)⟩, hB.drew⟩
          · go_wp2
            go_region
            go_wp2
            exact bodyPost_ret (v := .tuple #[.string s0, .slice (some ⟨g, off + 1, none⟩) r.length (c1 - 1), .int .i64 0]) (by simp [results, Tryd.results8, go_sem]) rfl ⟨HF.out _ (RdS_tail (HRR.out.below (Below.refl _ _).drew) q1 q2 _ (by rw [Option.map_some, Addr.add_lit]) (by simp)), hB.drew⟩
    · have HR := Lib.hid (HNO.out (by rw [hp]; omega))
      have hne : ((i : Int) + 4 != (b.length : Int)) = true := by rw [bne_iff_ne]; exact he
      have h0i : ¬ (i : Int) < 0 := by omega
      have hib : (i : Int) + 4 ≤ 2000000 := by omega
      clear hp hi hr HNO HT hS he
      generalize (⟨b.toArray⟩ : ByteArray) = s at hcv2 HI hsz
      go_enter Tryd.func8, Tryd.ntmps8
      go_wp2_with fail
      refine HI.out.mono ?_
      rintro e w1 ⟨rfl, hw⟩
      rw [hw]
      clear hw
      go_wp2
      exact bodyPost_ret (by simp [results, Tryd.results8, go_sem]; rfl) rfl ⟨HR.out _, Below.refl _ _⟩
end Go.Proofs.YtglljdhhgmgbgaaDoor
