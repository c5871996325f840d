/- joined, Via of package hop and of its reference; Join of both. -/
import Derived.Test.YthohdgjjlkeclaaDoorHopF
import Derived.Test.YthohdgjjlkeclaaDoorShelf
namespace Go.Proofs.YthohdgjjlkeclaaDoor
open Go.RowKit Go.Own
set_option linter.unusedVariables false
set_option maxHeartbeats 2000000

theorem sjoin_calls (va : Value) (l : List ByteArray) (w : World) (Ha : RdS w va l) (h0 : 0 < l.length) (hs : (l.map fun s => s.size + 1).sum ≤ 1000000000) :
    Calls Tryd.prog 33 #[va, .string ⟨#[44, 32]⟩] w fun e w' => e = .returned (.string (joinS l)) ∧ Below w.heap.size w w' := by
  obtain ⟨a, cap, rfl, h1, h2, h3, hc⟩ := Ha
  obtain ⟨b, off, rfl, hcell⟩ := hc.str 0 h0
  have hsz := joinS_size l
  have hlen : (Lib.join (l.map (·.data.toList)) (⟨#[44, 32]⟩ : ByteArray).data.toList).length ≤ 140737488355328 := by
    have : (joinS l).size = (Lib.join (l.map (·.data.toList)) (⟨#[44, 32]⟩ : ByteArray).data.toList).length := bs_size _
    omega
  have hll : l.length ≤ (l.map fun s => s.size + 1).sum := by
    clear hcell hc h0 h1 hsz hlen hs
    induction l with
    | nil => exact Nat.le_refl _
    | cons x r ih => simp only [List.length_cons, List.map_cons, List.sum_cons]; omega
  refine (Tryd.strings_Join b off cap l ⟨#[44, 32]⟩ w ?_ (World.block_lt_of_cell? w _ hcell) (by omega) h1 hlen).mono fun e w' ⟨he, hb⟩ => ⟨he, hb⟩
  intro j x hx
  have hj := (List.getElem?_eq_some_iff.1 hx).1
  obtain ⟨b2, off2, e, h⟩ := hc.str j hj
  injection e with e
  injection e with e1 e2
  subst e1 e2
  have hx2 : l[j] = x := by rw [List.getElem?_eq_getElem hj] at hx; exact Option.some.inj hx
  rw [h, hx2]

/-- what the reference's Join has written behind k elements -/
def joinK (l : List ByteArray) (k : Nat) : ByteArray := joinS (l.take k)
theorem joinK_zero (l : List ByteArray) : joinK l 0 = .empty := rfl
theorem joinK_one (l : List ByteArray) (h : 0 < l.length) : joinK l 1 = l[0] := by
  cases l with
  | nil => cases h
  | cons x r => show joinS [x] = x; unfold joinS; rw [List.map_cons, List.map_nil, Lib.join_one, bs_bl]
theorem joinK_succ (l : List ByteArray) (k : Nat) (h : k < l.length) (h0 : 0 < k) : joinK l (k + 1) = joinK l k ++ ⟨#[44, 32]⟩ ++ l[k] := by
  cases l with
  | nil => cases h
  | cons x r =>
    obtain ⟨j, rfl⟩ : ∃ j, k = j + 1 := ⟨k - 1, by omega⟩
    have hj : j < r.length := by simpa using h
    refine bl_inj ?_
    rw [bl_append, bl_append]
    unfold joinK joinS
    rw [bl_bs, bl_bs, List.take_succ_cons, List.take_succ_cons, List.map_cons, List.map_cons, Lib.join_cons, Lib.join_cons, List.map_take, List.map_take]
    rw [Lib.joinTail_take_succ _ _ j (bl r[j]) (by simp [hj])]
    simp [bl, List.append_assoc]
theorem joinK_size (l : List ByteArray) (k : Nat) (hs : (l.map fun s => s.size + 1).sum ≤ 1000000000) : (joinK l k).size ≤ 2000000000 := by
  have h := joinS_size (l.take k)
  have h2 : ((l.take k).map fun s => s.size + 1).sum ≤ (l.map fun s => s.size + 1).sum := by
    conv => rhs; rw [← List.take_append_drop k l, List.map_append, List.sum_append]
    omega
  unfold joinK; omega

theorem refJoin_calls (va : Value) (l : List ByteArray) (w : World) (Ha : RdS w va l) (hs : (l.map fun s => s.size + 1).sum ≤ 1000000000) :
    Calls Tryd.prog 37 #[va, .string ⟨#[44, 32]⟩] w fun e w' => e = .returned (.string (joinS l)) ∧ w = w' := by
  obtain ⟨a, cap, rfl, h1, h2, h3, hc⟩ := Ha
  have hll : l.length ≤ (l.map fun s => s.size + 1).sum := by
    clear hc h1 hs
    induction l with
    | nil => exact Nat.le_refl _
    | cons x r ih => simp only [List.length_cons, List.map_cons, List.sum_cons]; omega
  have hln : l.length ≤ 1000000000 := by omega
  have HK := Lib.hid (fun k => joinK_size l k hs)
  have HX := Lib.hid (show ∀ s ∈ l, s.size ≤ 1000000000 from fun s hsm => by
    obtain ⟨i, hi, rfl⟩ := List.getElem_of_mem hsm
    have h := List.take_append_drop i l
    have : l.drop i = l[i] :: l.drop (i + 1) := List.drop_eq_getElem_cons hi
    rw [this] at h
    rw [← h, List.map_append, List.sum_append, List.map_cons, List.sum_cons] at hs
    omega)
  clear hll hs
  go_enter Tryd.func37, Tryd.ntmps37
  go_wp2
  go_loop [5, 6] (fun s i => ∃ k : Nat, k ≤ l.length ∧ i = .int .i64 k ∧ ∃ t : ByteArray, s = .string t ∧ Hid (t = joinK l k)) (fun _ i => l.length - (intOf i).toNat)
  case atStart => exact ⟨0, Nat.zero_le _, rfl, _, rfl, Lib.hid rfl⟩
  case round =>
    obtain ⟨k, hk, rfl, t, rfl, HT⟩ := hrel
    by_cases hlt : k < l.length
    · have hki : (k : Int) < (l.length : Int) := by omega
      obtain ⟨b, off, rfl, hcell⟩ := hc.str k hlt
      have hz := HX.out l[k] (List.getElem_mem hlt)
      have hzt := HK.out k
      rw [← HT.out] at hzt
      by_cases h0 : 0 < k
      · have hki0 : (0 : Int) < (k : Int) := by omega
        have HS := Lib.hid (joinK_succ l k hlt h0)
        have z1 : ¬ 9223372036854775807 < t.size + 2 := by omega
        have z2 : ¬ 9223372036854775807 < t.size + 2 + l[k].size := by omega
        go_wp2
        go_round
        case rel => exact ⟨k + 1, by omega, by go_num, _, rfl, Lib.hid (by rw [HS.out, HT.out])⟩
        case measure => simp [intOf]; omega
      · have hki0 : ¬ (0 : Int) < (k : Int) := by omega
        obtain rfl : k = 0 := by omega
        have hcell0 : w.cell? ⟨b, off, none⟩ = some (.string l[0]) := by simpa using hcell
        clear hcell
        have HS := Lib.hid (joinK_one l hlt)
        have z2 : ¬ 9223372036854775807 < t.size + l[0].size := by omega
        go_wp2
        go_round
        case rel => exact ⟨1, by omega, by go_num, _, rfl, Lib.hid (by
          rw [HS.out, HT.out]
          refine bl_inj ?_
          rw [bl_append]; rfl)⟩
        case measure => simp [intOf]; omega
    · have hki : ¬ (k : Int) < (l.length : Int) := by omega
      have HR := Lib.hid (show t = joinS l by rw [HT.out, joinK, List.take_of_length_le (by omega)])
      clear HT
      go_wp2
      go_ret
      exact ⟨ret_str HR.out, rfl⟩

theorem rds_one (w : World) (s : ByteArray) : RdS (w.alloc (.cells #[.string s] 9)) (.slice (some ⟨w.heap.size, 0, none⟩) 1 1) [s] :=
  ⟨_, 1, rfl, Nat.le_refl _, by simp [maxLen], by simp, RdC_new w (strsV [s]) _ _⟩
theorem rdf_one (w : World) (a b : ByteArray) : RdF (w.alloc (.cells #[.string a, .string b] 41)) (.slice (some ⟨w.heap.size, 0, none⟩) 1 1) [⟨a, b⟩] :=
  ⟨_, 1, rfl, Nat.le_refl _, by simp [maxLen], by simp, RdC_new w (fieldsV [⟨a, b⟩]) _ _⟩

set_option maxRecDepth 100000 in
theorem joined_calls (va : Value) (l : List Fld) (n m : ByteArray) (w : World) (hE : Env w) (Ha : RdF w va l) (hl : fsize l ≤ 20000000) (hn : n.size ≤ 1000000) (hm : m.size ≤ 2000000) :
    Calls Tryd.prog 18 #[va, .string n, .string m] w fun e w' => (∃ v, e = .returned v ∧ OwnF w.heap.size w' v (joinedS l n m)) ∧ Below w.heap.size w w' := by
  have hn2 : n.size ≤ maxLen := by simp [maxLen]; omega
  have CE := Lib.hid (fun w hE Ha => elements_calls va l n w hE Ha (by omega) hn2)
  have HJ := Lib.hid (show joinedS l n m = withoutS l [n] ++ [⟨n, joinS (elemsS (valuesS l n) ++ [m])⟩] from rfl)
  have hsum := joined_sum l n m
  have hz1 := elemsS_length (valuesS l n)
  have hz2 := valuesS_sum l n
  have hlen := fsize_length l
  have hll : l.length ≤ 100000000 := by omega
  have HF := Lib.hid (show ∀ f ∈ l, f.name.size ≤ maxLen from fun f hf => by have := fsize_mem hf; simp [maxLen]; omega)
  generalize joinedS l n m = R at HJ ⊢
  generalize elemsS (valuesS l n) = E at CE HJ hsum hz1
  have hWl := withoutS_length l [n]
  have hsum2 : ((E ++ [m]).map fun s => s.size + 1).sum ≤ 1000000000 := by omega
  have hroom : (E.length + 1) * 16 ≤ 140737488355328 := by omega
  have hroom2 : E.length + 1 ≤ maxLen := by simp [maxLen]; omega
  clear hsum hz1 hz2 hlen
  go_enter Tryd.func18, Tryd.ntmps18
  go_wp2_with fail
  refine (CE.out _ hE Ha).mono ?_
  rintro e w1 ⟨⟨vE, rfl, hEo⟩, hb1⟩
  obtain ⟨aE, cE, rfl, -, -, -⟩ := owned_slice hEo
  have hsz1 := hb1.size
  go_wp2_with (at_builtin; refine wpList_append_oneb rfl (.tmp 10) (.tmp 12) 37 rfl w.heap.size hsz1 9 (.string .empty) 1 16 Tryd.underlying37 info_str rfl (by decide) aE E.length cE (strsV E) [.string m] rfl (one_cell_str _) rfl hEo rfl hroom hroom2 ?_; intro a1 c1 w2 hown2 hg2 hw2)
  have HE2 : OwnS w.heap.size w2 (.slice a1 (E.length + 1) c1) (E ++ [m]) := OwnS.snoc hown2
  have HB2 := hb1.grown hg2 hb1.size (fun k hk => (hEo.lt k (by rw [ownBlock_slice]; exact hk)).1)
  clear hown2 hg2 hw2 hEo hb1 CE hsz1
  have HA := (Below.refl w2.heap.size w2).alloc (Nat.le_refl _) (.cells #[.string n] 9)
  have HB3 := HB2.alloc HB2.size (.cells #[.string n] 9)
  refine (without_calls va _ l [n] _ (Ha.below HB3) (rds_one w2 n) hll (by intro x hx; rw [List.mem_singleton] at hx; rw [hx]; exact hn2) HF.out).mono ?_
  rintro e w3 ⟨⟨vW, rfl, hW⟩, hb3⟩
  have HB4 := Below.self_trans HB3 hb3
  have HE4 := (HE2.below HA).below hb3
  clear HA HB2 HB3 hb3 HE2
  go_wp2_with fail
  have hpos : 0 < (E ++ [m]).length := by simp
  refine (sjoin_calls _ (E ++ [m]) _ HE4.rd hpos hsum2).mono ?_
  rintro e w4 ⟨rfl, hb4⟩
  have HB5 := Below.self_trans HB4 hb4
  have hW5 := OwnF.below hW hb4
  clear hb4 HE4 HB4 hW
  generalize joinS (E ++ [m]) = J at HJ ⊢
  generalize withoutS l [n] = W at HJ hWl hW5
  go_wp2_with fail
  have HA := (Below.refl w4.heap.size w4).alloc (Nat.le_refl _) (.cells #[.string n, .string J] 41)
  have HB6 := HB5.alloc HB5.size (.cells #[.string n, .string J] 41)
  refine (with_calls _ _ W [⟨n, J⟩] _ (RdF.below hW5.rd HA) (rdf_one w4 n J) (by omega) (by simp)).mono ?_
  rintro e w5 ⟨⟨v, rfl, hown⟩, hb5⟩
  have HB7 := Below.self_trans HB6 hb5
  have hown2 := OwnF.base hown HB6.size
  clear hb5 hown HA HB6 hW5 HB5
  go_wp2
  go_ret
  exact ⟨⟨_, rfl, by rw [HJ.out]; exact hown2⟩, HB7⟩

theorem via_calls (va : Value) (l : List Fld) (w : World) (hE : Env w) (Ha : RdF w va l) (hl : fsize l ≤ 20000000) :
    Calls Tryd.prog 17 #[va] w fun e w' => (∃ v, e = .returned v ∧ OwnF w.heap.size w' v (viaS l)) ∧ Below w.heap.size w w' := by
  have CJ := Lib.hid (joined_calls va l sVia sSelf w hE Ha hl (by decide) (by decide))
  have hV : joinedS l sVia sSelf = viaS l := rfl
  rw [hV] at CJ
  generalize viaS l = R at CJ ⊢
  clear hV
  go_enter Tryd.func17, Tryd.ntmps17
  go_wp2_with fail
  refine CJ.out.mono ?_
  rintro e w1 ⟨⟨v, rfl, hown⟩, hb⟩
  go_wp2
  go_ret
  exact ⟨⟨_, rfl, hown⟩, hb⟩

set_option maxRecDepth 100000 in
theorem refJoined_calls (va : Value) (l : List Fld) (n m : ByteArray) (w : World) (Ha : RdF w va l) (hl : fsize l ≤ 20000000) (hn : n.size ≤ 1000000) (hm : m.size ≤ 2000000) :
    Calls Tryd.prog 22 #[va, .string n, .string m] w fun e w' => (∃ v, e = .returned v ∧ OwnF w.heap.size w' v (joinedS l n m)) ∧ Below w.heap.size w w' := by
  have hn2 : n.size ≤ maxLen := by simp [maxLen]; omega
  have CE := Lib.hid (fun w Ha => refElements_calls va l n w Ha (by omega) hn2)
  have HJ := Lib.hid (show joinedS l n m = withoutS l [n] ++ [⟨n, joinS (elemsS (valuesS l n) ++ [m])⟩] from rfl)
  have hsum := joined_sum l n m
  have hz1 := elemsS_length (valuesS l n)
  have hz2 := valuesS_sum l n
  have hlen := fsize_length l
  have hll : l.length ≤ 100000000 := by omega
  have HF := Lib.hid (show ∀ f ∈ l, f.name.size ≤ maxLen from fun f hf => by have := fsize_mem hf; simp [maxLen]; omega)
  generalize joinedS l n m = R at HJ ⊢
  generalize elemsS (valuesS l n) = E at CE HJ hsum hz1
  have hWl := withoutS_length l [n]
  have hsum2 : ((E ++ [m]).map fun s => s.size + 1).sum ≤ 1000000000 := by omega
  have hroom : (E.length + 1) * 16 ≤ 140737488355328 := by omega
  have hroom2 : E.length + 1 ≤ maxLen := by simp [maxLen]; omega
  clear hsum hz1 hz2 hlen
  go_enter Tryd.func22, Tryd.ntmps22
  go_wp2_with fail
  refine (CE.out _ Ha).mono ?_
  rintro e w1 ⟨⟨vE, rfl, hEo⟩, hb1⟩
  obtain ⟨aE, cE, rfl, -, -, -⟩ := owned_slice hEo
  have hsz1 := hb1.size
  go_wp2_with (at_builtin; refine wpList_append_oneb rfl (.tmp 10) (.tmp 12) 37 rfl w.heap.size hsz1 9 (.string .empty) 1 16 Tryd.underlying37 info_str rfl (by decide) aE E.length cE (strsV E) [.string m] rfl (one_cell_str _) rfl hEo rfl hroom hroom2 ?_; intro a1 c1 w2 hown2 hg2 hw2)
  have HE2 : OwnS w.heap.size w2 (.slice a1 (E.length + 1) c1) (E ++ [m]) := OwnS.snoc hown2
  have HB2 := hb1.grown hg2 hb1.size (fun k hk => (hEo.lt k (by rw [ownBlock_slice]; exact hk)).1)
  clear hown2 hg2 hw2 hEo hb1 CE hsz1
  have HA := (Below.refl w2.heap.size w2).alloc (Nat.le_refl _) (.cells #[.string n] 9)
  have HB3 := HB2.alloc HB2.size (.cells #[.string n] 9)
  refine (refWithout_calls va _ l [n] _ (Ha.below HB3) (rds_one w2 n) hll (by intro x hx; rw [List.mem_singleton] at hx; rw [hx]; exact hn2) HF.out).mono ?_
  rintro e w3 ⟨⟨vW, rfl, hW⟩, hb3⟩
  have HB4 := Below.self_trans HB3 hb3
  have HE4 := (HE2.below HA).below hb3
  have hz22 := HB2.size
  clear HA HB2 HB3 hb3 HE2
  obtain ⟨aW, cW, rfl, -, -, -⟩ := owned_slice hW
  have hW4 : OwnF w.heap.size w3 (.slice aW (withoutS l [n]).length cW) (withoutS l [n]) := OwnF.base hW (by simp; omega)
  clear hW
  go_wp2_with fail
  refine (refJoin_calls _ (E ++ [m]) _ HE4.rd hsum2).mono ?_
  rintro e w4 ⟨rfl, rfl⟩
  clear HE4
  generalize joinS (E ++ [m]) = J at HJ ⊢
  generalize withoutS l [n] = W at HJ hWl hW4 ⊢
  have hsz4 := HB4.size
  have hroom3 : (W.length + 1) * 32 ≤ 140737488355328 := by omega
  have hroom4 : W.length + 1 ≤ maxLen := by simp [maxLen]; omega
  go_wp2_with (at_builtin; refine wpList_append_oneb rfl (.tmp 17) (.tmp 22) 23 rfl w.heap.size hsz4 41 (.agg #[.string .empty, .string .empty]) 2 32 Tryd.underlying23 info_fld rfl (by decide) aW W.length cW (fieldsV W) [.string n, .string J] rfl (by intro u hu; simp only [List.mem_cons, List.not_mem_nil, or_false] at hu; rcases hu with rfl | rfl <;> rfl) rfl hW4 rfl hroom3 hroom4 ?_; intro a5 c5 w5 hown5 hg5 hw5)
  have HB5 := HB4.grown hg5 HB4.size (fun k hk => (hW4.lt k (by rw [ownBlock_slice]; exact hk)).1)
  have hown2 : OwnF w.heap.size w5 (.slice a5 (W.length + 1) c5) (W ++ [⟨n, J⟩]) := OwnF.snoc hown5
  clear hown5 hg5 hw5 hW4
  go_ret
  exact ⟨⟨_, rfl, by rw [HJ.out]; exact hown2⟩, HB5⟩

theorem refVia_calls (va : Value) (l : List Fld) (w : World) (Ha : RdF w va l) (hl : fsize l ≤ 20000000) :
    Calls Tryd.prog 21 #[va] w fun e w' => (∃ v, e = .returned v ∧ OwnF w.heap.size w' v (viaS l)) ∧ Below w.heap.size w w' := by
  have CJ := Lib.hid (refJoined_calls va l sVia sSelf w Ha hl (by decide) (by decide))
  have hV : joinedS l sVia sSelf = viaS l := rfl
  rw [hV] at CJ
  generalize viaS l = R at CJ ⊢
  clear hV
  go_enter Tryd.func21, Tryd.ntmps21
  go_wp2_with fail
  refine CJ.out.mono ?_
  rintro e w1 ⟨⟨v, rfl, hown⟩, hb⟩
  go_wp2
  go_ret
  exact ⟨⟨_, rfl, hown⟩, hb⟩
end Go.Proofs.YthohdgjjlkeclaaDoor
