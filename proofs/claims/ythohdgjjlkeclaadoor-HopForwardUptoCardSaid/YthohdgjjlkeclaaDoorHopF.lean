/- The fields of one hop: Strip of package hop and of its reference. -/
import Derived.Test.YthohdgjjlkeclaaDoorHopP
import Derived.Test.YthohdgjjlkeclaaDoorX06
import Derived.Test.YthohdgjjlkeclaaDoorSrcX
namespace Go.Proofs.YthohdgjjlkeclaaDoor
open Go.RowKit Go.Own
set_option linter.unusedVariables false
set_option maxHeartbeats 2000000

theorem hopOf_calls (s : ByteArray) (w : World) (hs : s.size ≤ maxLen) : Calls Tryd.prog 30 #[.string s] w fun e w' => e = .returned (.agg #[.string (lowerB s)]) ∧ Below w.heap.size w w' := by
  have CL := Lib.hid (fun w => lower_calls s w hs)
  generalize lowerB s = t at CL ⊢
  go_enter Tryd.func30, Tryd.ntmps30
  go_wp2_with fail
  refine (CL.out _).mono ?_
  rintro e w1 ⟨rfl, hb⟩
  have c0 := (keptN hb 0).1
  have f0 := (keptN hb 0).2
  have hb1 := kept_below hb
  have hlt := kept_lt hb
  clear hb
  go_wp2
  refine bodyPost_ret (v := .agg #[.string t]) (by simp [results, Tryd.results30, go_sem, World.cell?_setCell_same _ _ _ c0]) rfl ⟨rfl, hb1.setCell (Nat.le_refl _) _⟩

theorem fixed_calls (w : World) : Calls Tryd.prog 28 #[] w fun e w' => (∃ v, e = .returned v ∧ OwnS w.heap.size w' v fixedU) ∧ Below w.heap.size w w' := by
  have HO := Lib.hid (World.ownsRow_lit (base := w.heap.size) (e := 9) (size := 1) w (strsV fixedU).toArray 9 (Nat.le_refl _) (by simp [maxLen]) rfl)
  go_enter Tryd.func28, Tryd.ntmps28
  go_wp2
  go_ret
  exact ⟨⟨_, rfl, HO.out⟩, (Below.refl _ _).alloc (Nat.le_refl _) _⟩

/-- where Strip's loop stands: k elements looked at -/
def StripAt (w0 : World) (F E : List ByteArray) (aE : Option Addr) (v : Value) (k : Nat) (wr : World) : Prop :=
  ∃ names a0 c0, v = .slice a0 names.length c0 ∧ names.length ≤ 9 + k ∧ OwnS w0.heap.size wr (.slice a0 names.length c0) names ∧ Below w0.heap.size w0 wr ∧ RdC wr aE (strsV E) ∧ ApartB wr aE a0 ∧ names = F ++ (E.take k).filter fun s => !endF s
theorem StripAt.below {w0 wr w' : World} {F E : List ByteArray} {aE : Option Addr} {v : Value} {k : Nat} (h : StripAt w0 F E aE v k wr) (hb : Below wr.heap.size wr w') : StripAt w0 F E aE v k w' := by
  obtain ⟨names, a0, c0, h1, h2, h3, h4, h5, h6, h7⟩ := h
  exact ⟨names, a0, c0, h1, h2, h3.below hb, Below.self_trans h4 hb, h5.below hb, fun b hb2 => ⟨Nat.lt_of_lt_of_le (h6 b hb2).1 hb.size, (h6 b hb2).2⟩, h7⟩
theorem StripAt.skip {w0 wr : World} {F E : List ByteArray} {aE : Option Addr} {v : Value} {k : Nat} (h : StripAt w0 F E aE v k wr) (hk : k < E.length) (he : endF E[k] = true) : StripAt w0 F E aE v (k + 1) wr := by
  obtain ⟨names, a0, c0, h1, h2, h3, h4, h5, h6, h7⟩ := h
  exact ⟨names, a0, c0, h1, by omega, h3, h4, h5, h6, by rw [h7, filter_take _ _ _ hk, he]; simp⟩
theorem StripAt.cell {w0 wr : World} {F E : List ByteArray} {aE : Option Addr} {v : Value} {k : Nat} (h : StripAt w0 F E aE v k wr) (hk : k < E.length) : ∃ b off, aE = some ⟨b, off, none⟩ ∧ wr.cell? ⟨b, off + k, none⟩ = some (.string E[k]) := by
  obtain ⟨names, a0, c0, h1, h2, h3, h4, h5, h6, h7⟩ := h
  exact h5.str k hk
theorem StripAt.start {w0 w1 w2 : World} {F E : List ByteArray} {vN : Value} {aE : Option Addr} {cE : Nat} (hN : OwnS w0.heap.size w1 vN F) (hF : F.length = 9) (hb1 : Below w0.heap.size w0 w1) (hEo : OwnS w1.heap.size w2 (.slice aE E.length cE) E) (hb2 : Below w1.heap.size w1 w2) : StripAt w0 F E aE vN 0 w2 := by
  obtain ⟨aN, cN, rfl, -, -, -⟩ := owned_slice hN
  obtain ⟨_, _, e1, -, -, -, hr⟩ := hEo.rd
  cases e1
  exact ⟨F, aN, cN, rfl, by omega, hN.below hb2, Below.self_trans hb1 hb2, hr, ApartB.later hEo hN, by simp⟩
theorem StripAt.put {w0 wr w' : World} {F E : List ByteArray} {aE a0 a1 : Option Addr} {names : List ByteArray} {c0 c1 k : Nat} (h2 : names.length ≤ 9 + k) (h3 : OwnS w0.heap.size wr (.slice a0 names.length c0) names) (h4 : Below w0.heap.size w0 wr) (h5 : RdC wr aE (strsV E)) (h6 : ApartB wr aE a0) (h7 : names = F ++ (E.take k).filter fun s => !endF s)
    (hk : k < E.length) (he : endF E[k] = false) (hown : w'.ownsRow w0.heap.size 9 1 (.slice a1 (names.length + 1) c1) (names.length + 1) (strsV names ++ [.string E[k]])) (hg : wr.grownBy w' (blk a0)) (hw : blk a1 = blk a0 ∨ ∃ g, blk a1 = some g ∧ wr.heap.size ≤ g) : StripAt w0 F E aE (.slice a1 (names.length + 1) c1) (k + 1) w' := by
  have h8 : OwnS w0.heap.size w' (.slice a1 (names.length + 1) c1) (names ++ [E[k]]) := OwnS.snoc hown
  refine ⟨names ++ [E[k]], a1, c1, by simp, by simp; omega, by simpa using h8, h4.grown hg h4.size (fun k hk => (h3.lt k (by rw [ownBlock_slice]; exact hk)).1), h6.rd h5 hg, h6.next hg.size hw, ?_⟩
  rw [h7, filter_take _ _ _ hk, he, List.append_assoc]; simp

set_option maxRecDepth 100000 in
theorem strip_calls (va : Value) (l : List Fld) (w : World) (hE : Env w) (Ha : RdF w va l) (hl : fsize l ≤ 100000000) :
    Calls Tryd.prog 15 #[va] w fun e w' => (∃ v, e = .returned v ∧ OwnF w.heap.size w' v (stripS l)) ∧ Below w.heap.size w w' := by
  have CE := Lib.hid (fun w hE Ha => elements_calls va l sConn w hE Ha hl (by decide))
  have HST := Lib.hid (show stripS l = withoutS l (fixedU ++ (connE l).filter fun s => !endF s) from rfl)
  have hz1 := elemsS_length (valuesS l sConn)
  have hz2 := valuesS_sum l sConn
  have HZ := Lib.hid (show ∀ s ∈ connE l, s.size ≤ maxLen from fun s hs => by
    obtain ⟨t, ht, hst⟩ := mem_elemsS_size hs
    have := valuesS_mem ht
    simp [maxLen]; omega)
  have hEl : (connE l).length ≤ 100000000 := by unfold connE; omega
  have hlen := fsize_length l
  have hll : l.length ≤ 100000000 := by omega
  have HF := Lib.hid (show ∀ f ∈ l, f.name.size ≤ maxLen from fun f hf => by have := fsize_mem hf; simp [maxLen]; omega)
  have hcE : connE l = elemsS (valuesS l sConn) := rfl
  rw [← hcE] at CE
  clear hz1 hz2 hcE
  generalize connE l = E at CE HST HZ hEl
  generalize stripS l = R at HST ⊢
  have HH := Lib.hid (fun w => hopOf_calls sHost w (by decide))
  have HC := Lib.hid (fun w => hopOf_calls sCook w (by decide))
  go_enter Tryd.func15, Tryd.ntmps15
  go_wp2_with fail
  refine (fixed_calls _).mono ?_
  rintro e w1 ⟨⟨vN, rfl, hN⟩, hb1⟩
  go_wp2_with fail
  refine (CE.out _ (hE.below hb1) (Ha.below hb1)).mono ?_
  rintro e w2 ⟨⟨vE, rfl, hEo⟩, hb2⟩
  obtain ⟨aE, cE, rfl, -, -, -⟩ := owned_slice hEo
  have HS0 := Lib.hid (StripAt.start hN rfl hb1 hEo hb2)
  clear hN hb1 hEo hb2 CE
  go_wp2
  go_loopw [3, 10] (fun v i wr => ∃ k : Nat, k ≤ E.length ∧ i = .int .i64 k ∧ Hid (StripAt w fixedU E aE v k wr)) (fun _ i _ => E.length - (intOf i).toNat)
  case atStart => exact ⟨0, Nat.zero_le _, rfl, HS0⟩
  case round =>
    clear HS0
    obtain ⟨k, hk, rfl, HS⟩ := hrel
    by_cases hlt : k < E.length
    · have hki : (k : Int) < (E.length : Int) := by omega
      obtain ⟨b, off, rfl, hcell⟩ := HS.out.cell hlt
      have hsz := HZ.out E[k] (List.getElem_mem hlt)
      have HO := Lib.hid (fun w => hopOf_calls E[k] w hsz)
      cases h1 : foldB E[k] sHost with
      | true =>
        have e1 : ((lowerB E[k]).toList == (lowerB sHost).toList) = true := h1
        have hend : endF E[k] = true := by unfold endF; rw [h1]; rfl
        generalize lowerB E[k] = ls at HO e1
        generalize lowerB sHost = lh at HH e1
        go_wp2_with fail
        refine (HO.out _).mono ?_
        rintro e w3 ⟨rfl, hb3⟩
        have HS3 := Lib.hid (HS.out.below hb3)
        clear hb3 HS hcell
        go_wp2_with fail
        refine (HH.out _).mono ?_
        rintro e w4 ⟨rfl, hb4⟩
        have HS4 := Lib.hid ((HS3.out.below hb4).skip hlt hend)
        clear hb4 HS3
        go_wp2
        go_roundw
        case rel => exact ⟨k + 1, by omega, by go_num, HS4⟩
        case measure => simp [intOf]; omega
      | false =>
        have e1 : ((lowerB E[k]).toList == (lowerB sHost).toList) = false := h1
        cases h2 : foldB E[k] sCook with
        | true =>
          have e2 : ((lowerB E[k]).toList == (lowerB sCook).toList) = true := h2
          have hend : endF E[k] = true := by unfold endF; rw [h1, h2]; rfl
          generalize lowerB E[k] = ls at HO e1 e2
          generalize lowerB sHost = lh at HH e1
          generalize lowerB sCook = lc at HC e2
          go_wp2_with fail
          refine (HO.out _).mono ?_
          rintro e w3 ⟨rfl, hb3⟩
          have HS3 := Lib.hid (HS.out.below hb3)
          clear hb3 HS hcell
          go_wp2_with fail
          refine (HH.out _).mono ?_
          rintro e w4 ⟨rfl, hb4⟩
          have HS4 := Lib.hid (HS3.out.below hb4)
          clear hb4 HS3
          go_wp2_with fail
          refine (HO.out _).mono ?_
          rintro e w5 ⟨rfl, hb5⟩
          have HS5 := Lib.hid (HS4.out.below hb5)
          clear hb5 HS4
          go_wp2_with fail
          refine (HC.out _).mono ?_
          rintro e w6 ⟨rfl, hb6⟩
          have HS6 := Lib.hid ((HS5.out.below hb6).skip hlt hend)
          clear hb6 HS5
          go_wp2
          go_roundw
          case rel => exact ⟨k + 1, by omega, by go_num, HS6⟩
          case measure => simp [intOf]; omega
        | false =>
          have e2 : ((lowerB E[k]).toList == (lowerB sCook).toList) = false := h2
          have hend : endF E[k] = false := by unfold endF; rw [h1, h2]; rfl
          generalize lowerB E[k] = ls at HO e1 e2
          generalize lowerB sHost = lh at HH e1
          generalize lowerB sCook = lc at HC e2
          go_wp2_with fail
          refine (HO.out _).mono ?_
          rintro e w3 ⟨rfl, hb3⟩
          have HS3 := Lib.hid (HS.out.below hb3)
          clear hb3 HS hcell
          go_wp2_with fail
          refine (HH.out _).mono ?_
          rintro e w4 ⟨rfl, hb4⟩
          have HS4 := Lib.hid (HS3.out.below hb4)
          clear hb4 HS3
          go_wp2_with fail
          refine (HO.out _).mono ?_
          rintro e w5 ⟨rfl, hb5⟩
          have HS5 := Lib.hid (HS4.out.below hb5)
          clear hb5 HS4
          go_wp2_with fail
          refine (HC.out _).mono ?_
          rintro e w6 ⟨rfl, hb6⟩
          obtain ⟨names, a0, c0, rfl, g2, g3, g4, g5, g6, g7⟩ := HS5.out.below hb6
          have G7 := Lib.hid g7
          have hroom : (names.length + 1) * 16 ≤ 140737488355328 := by omega
          have hroom2 : names.length + 1 ≤ maxLen := by simp [maxLen]; omega
          have hsz6 := g4.size
          clear hb6 HS5 g7
          go_wp2_with (at_builtin; refine wpList_append_oneb rfl (.tmp 24) (.tmp 26) 37 rfl w.heap.size hsz6 9 (.string .empty) 1 16 Tryd.underlying37 info_str rfl (by decide) a0 names.length c0 (strsV names) [.string E[k]] rfl (one_cell_str _) rfl g3 rfl hroom hroom2 ?_; intro a1 c1 w7 hown7 hg7 hw7)
          have HS7 := Lib.hid (StripAt.put g2 g3 g4 g5 g6 G7.out hlt hend hown7 hg7 hw7)
          clear hown7 hg7 hw7 g3 g4 g5 g6 G7
          go_roundw
          case rel => exact ⟨k + 1, by omega, by go_num, HS7⟩
          case measure => simp [intOf]; omega
    · have hki : ¬ (k : Int) < (E.length : Int) := by omega
      obtain ⟨names, a0, c0, rfl, g2, g3, g4, g5, g6, g7⟩ := HS.out
      have hnm : names = fixedU ++ E.filter fun s => !endF s := by rw [g7, List.take_of_length_le (by omega)]
      have HR := Lib.hid (show R = withoutS l names by rw [HST.out, hnm])
      have HNZ := Lib.hid (show ∀ x ∈ names, x.size ≤ maxLen from fun x hx => by
        rw [hnm] at hx
        rcases List.mem_append.1 hx with h | h
        · have : ∀ x ∈ fixedU, x.size ≤ 100 := by decide
          have := this x h
          simp [maxLen]; omega
        · exact HZ.out x (List.mem_filter.1 h).1)
      clear g7 hnm HS g5 g6 HST HH HC
      go_wp2_with fail
      refine (without_calls va _ l names _ (Ha.below g4) g3.rd hll HNZ.out HF.out).mono ?_
      rintro e w3 ⟨⟨v, rfl, hown⟩, hb3⟩
      have HB3 := Below.self_trans g4 hb3
      have hown2 := OwnF.base hown g4.size
      clear hb3 hown g3 g4
      go_wp2
      go_ret
      exact ⟨⟨_, rfl, by rw [HR.out]; exact hown2⟩, HB3⟩
set_option maxRecDepth 100000 in
theorem refStrip_calls (va : Value) (l : List Fld) (w : World) (Ha : RdF w va l) (hl : fsize l ≤ 100000000) :
    Calls Tryd.prog 23 #[va] w fun e w' => (∃ v, e = .returned v ∧ OwnF w.heap.size w' v (stripS l)) ∧ Below w.heap.size w w' := by
  have hcon : (⟨#[99, 111, 110, 110, 101, 99, 116, 105, 111, 110]⟩ : ByteArray) = lowerB sConn := by decide +kernel
  have hho : (⟨#[104, 111, 115, 116]⟩ : ByteArray) = lowerB sHost := by decide +kernel
  have hco : (⟨#[99, 111, 111, 107, 105, 101]⟩ : ByteArray) = lowerB sCook := by decide +kernel
  have CE := Lib.hid (fun w Ha => refElements_calls va l ⟨#[99, 111, 110, 110, 101, 99, 116, 105, 111, 110]⟩ w Ha hl (by decide))
  have HST := Lib.hid (show stripS l = withoutS l (fixedL ++ (connE l).filter fun s => !endF s) from (strip_lower l _).symm)
  have hz1 := elemsS_length (valuesS l sConn)
  have hz2 := valuesS_sum l sConn
  have HZ := Lib.hid (show ∀ s ∈ connE l, s.size ≤ maxLen from fun s hs => by
    obtain ⟨t, ht, hst⟩ := mem_elemsS_size hs
    have := valuesS_mem ht
    simp [maxLen]; omega)
  have hEl : (connE l).length ≤ 100000000 := by unfold connE; omega
  have hlen := fsize_length l
  have hll : l.length ≤ 100000000 := by omega
  have HF := Lib.hid (show ∀ f ∈ l, f.name.size ≤ maxLen from fun f hf => by have := fsize_mem hf; simp [maxLen]; omega)
  have hcE : connE l = elemsS (valuesS l ⟨#[99, 111, 110, 110, 101, 99, 116, 105, 111, 110]⟩) := by rw [hcon, valuesS_lower]; rfl
  rw [← hcE] at CE
  clear hz1 hz2 hcE hcon
  generalize connE l = E at CE HST HZ hEl
  generalize stripS l = R at HST ⊢
  have HO := Lib.hid (World.ownsRow_lit (base := w.heap.size) (e := 9) (size := 1) w (strsV fixedL).toArray 9 (Nat.le_refl _) (by simp [maxLen]) rfl)
  have hfl : (strsV fixedL).toArray = #[.string ⟨#[99, 111, 110, 110, 101, 99, 116, 105, 111, 110]⟩, .string ⟨#[107, 101, 101, 112, 45, 97, 108, 105, 118, 101]⟩, .string ⟨#[112, 114, 111, 120, 121, 45, 99, 111, 110, 110, 101, 99, 116, 105, 111, 110]⟩, .string ⟨#[116, 101]⟩, .string ⟨#[116, 114, 97, 105, 108, 101, 114]⟩, .string ⟨#[116, 114, 97, 110, 115, 102, 101, 114, 45, 101, 110, 99, 111, 100, 105, 110, 103]⟩, .string ⟨#[117, 112, 103, 114, 97, 100, 101]⟩, .string ⟨#[101, 120, 112, 101, 99, 116]⟩, .string ⟨#[99, 111, 110, 116, 101, 110, 116, 45, 108, 101, 110, 103, 116, 104]⟩] := by rw [fixedL_lit]; rfl
  rw [hfl] at HO
  have HB1 := (Below.refl w.heap.size w).alloc (Nat.le_refl _) (.cells #[.string ⟨#[99, 111, 110, 110, 101, 99, 116, 105, 111, 110]⟩, .string ⟨#[107, 101, 101, 112, 45, 97, 108, 105, 118, 101]⟩, .string ⟨#[112, 114, 111, 120, 121, 45, 99, 111, 110, 110, 101, 99, 116, 105, 111, 110]⟩, .string ⟨#[116, 101]⟩, .string ⟨#[116, 114, 97, 105, 108, 101, 114]⟩, .string ⟨#[116, 114, 97, 110, 115, 102, 101, 114, 45, 101, 110, 99, 111, 100, 105, 110, 103]⟩, .string ⟨#[117, 112, 103, 114, 97, 100, 101]⟩, .string ⟨#[101, 120, 112, 101, 99, 116]⟩, .string ⟨#[99, 111, 110, 116, 101, 110, 116, 45, 108, 101, 110, 103, 116, 104]⟩] 9)
  have HN := Lib.hid (show OwnS w.heap.size _ (.slice (some ⟨w.heap.size, 0, none⟩) fixedL.length 9) fixedL by have h := HO.out; rw [← hfl] at h; exact h)
  rw [hfl] at HN
  clear hfl HO
  go_enter Tryd.func23, Tryd.ntmps23
  go_wp2_with fail
  refine (CE.out _ (Ha.below HB1)).mono ?_
  rintro e w2 ⟨⟨vE, rfl, hEo⟩, hb2⟩
  obtain ⟨aE, cE, rfl, -, -, -⟩ := owned_slice hEo
  have HS0 := Lib.hid (StripAt.start HN.out (by decide +kernel) HB1 hEo hb2)
  clear HN HB1 hEo hb2 CE
  go_wp2
  go_loopw [3, 5] (fun v i wr => ∃ k : Nat, k ≤ E.length ∧ i = .int .i64 k ∧ Hid (StripAt w fixedL E aE v k wr)) (fun _ i _ => E.length - (intOf i).toNat)
  case atStart => exact ⟨0, Nat.zero_le _, rfl, HS0⟩
  case round =>
    clear HS0
    obtain ⟨k, hk, rfl, HS⟩ := hrel
    by_cases hlt : k < E.length
    · have hki : (k : Int) < (E.length : Int) := by omega
      obtain ⟨b, off, rfl, hcell⟩ := HS.out.cell hlt
      have hsz := HZ.out E[k] (List.getElem_mem hlt)
      have HH := Lib.hid (fun w => refFold_calls E[k] ⟨#[104, 111, 115, 116]⟩ w hsz (by decide))
      have HC := Lib.hid (fun w => refFold_calls E[k] ⟨#[99, 111, 111, 107, 105, 101]⟩ w hsz (by decide))
      rw [hho, foldB_lowerR, ← hho] at HH
      rw [hco, foldB_lowerR, ← hco] at HC
      cases h1 : foldB E[k] sHost with
      | true =>
        have hend : endF E[k] = true := by unfold endF; rw [h1]; rfl
        rw [h1] at HH
        go_wp2_with fail
        refine (HH.out _).mono ?_
        rintro e w3 ⟨rfl, hb3⟩
        have HS3 := Lib.hid ((HS.out.below hb3).skip hlt hend)
        clear hb3 HS hcell
        go_wp2
        go_roundw
        case rel => exact ⟨k + 1, by omega, by go_num, HS3⟩
        case measure => simp [intOf]; omega
      | false =>
        rw [h1] at HH
        cases h2 : foldB E[k] sCook with
        | true =>
          have hend : endF E[k] = true := by unfold endF; rw [h1, h2]; rfl
          rw [h2] at HC
          go_wp2_with fail
          refine (HH.out _).mono ?_
          rintro e w3 ⟨rfl, hb3⟩
          have HS3 := Lib.hid (HS.out.below hb3)
          have hc3 := cell_below hb3 hcell
          clear hb3 HS hcell
          go_wp2_with fail
          refine (HC.out _).mono ?_
          rintro e w4 ⟨rfl, hb4⟩
          have HS4 := Lib.hid ((HS3.out.below hb4).skip hlt hend)
          clear hb4 HS3 hc3
          go_wp2
          go_roundw
          case rel => exact ⟨k + 1, by omega, by go_num, HS4⟩
          case measure => simp [intOf]; omega
        | false =>
          have hend : endF E[k] = false := by unfold endF; rw [h1, h2]; rfl
          rw [h2] at HC
          go_wp2_with fail
          refine (HH.out _).mono ?_
          rintro e w3 ⟨rfl, hb3⟩
          have HS3 := Lib.hid (HS.out.below hb3)
          have hc3 := cell_below hb3 hcell
          clear hb3 HS hcell
          go_wp2_with fail
          refine (HC.out _).mono ?_
          rintro e w4 ⟨rfl, hb4⟩
          have hc4 := cell_below hb4 hc3
          obtain ⟨names, a0, c0, rfl, g2, g3, g4, g5, g6, g7⟩ := HS3.out.below hb4
          have G7 := Lib.hid g7
          have hroom : (names.length + 1) * 16 ≤ 140737488355328 := by omega
          have hroom2 : names.length + 1 ≤ maxLen := by simp [maxLen]; omega
          have hsz6 := g4.size
          clear hb4 HS3 g7 hc3
          go_wp2_with (at_builtin; refine wpList_append_oneb rfl (.tmp 29) (.tmp 34) 37 rfl w.heap.size hsz6 9 (.string .empty) 1 16 Tryd.underlying37 info_str rfl (by decide) a0 names.length c0 (strsV names) [.string E[k]] rfl (one_cell_str _) rfl g3 rfl hroom hroom2 ?_; intro a1 c1 w7 hown7 hg7 hw7)
          have HS7 := Lib.hid (StripAt.put g2 g3 g4 g5 g6 G7.out hlt hend hown7 hg7 hw7)
          clear hown7 hg7 hw7 g3 g4 g5 g6 G7 hc4
          go_roundw
          case rel => exact ⟨k + 1, by omega, by go_num, HS7⟩
          case measure => simp [intOf]; omega
    · have hki : ¬ (k : Int) < (E.length : Int) := by omega
      obtain ⟨names, a0, c0, rfl, g2, g3, g4, g5, g6, g7⟩ := HS.out
      have hnm : names = fixedL ++ E.filter fun s => !endF s := by rw [g7, List.take_of_length_le (by omega)]
      have HR := Lib.hid (show R = withoutS l names by rw [HST.out, hnm])
      have HNZ := Lib.hid (show ∀ x ∈ names, x.size ≤ maxLen from fun x hx => by
        rw [hnm] at hx
        rcases List.mem_append.1 hx with h | h
        · have : ∀ x ∈ fixedL, x.size ≤ 100 := by decide +kernel
          have := this x h
          simp [maxLen]; omega
        · exact HZ.out x (List.mem_filter.1 h).1)
      clear g7 hnm HS g5 g6 HST hho hco
      go_wp2_with fail
      refine (refWithout_calls va _ l names _ (Ha.below g4) g3.rd hll HNZ.out HF.out).mono ?_
      rintro e w3 ⟨⟨v, rfl, hown⟩, hb3⟩
      have HB3 := Below.self_trans g4 hb3
      have hown2 := OwnF.base hown g4.size
      clear hb3 hown g3 g4
      go_wp2
      go_ret
      exact ⟨⟨_, rfl, by rw [HR.out]; exact hown2⟩, HB3⟩
end Go.Proofs.YthohdgjjlkeclaaDoor
