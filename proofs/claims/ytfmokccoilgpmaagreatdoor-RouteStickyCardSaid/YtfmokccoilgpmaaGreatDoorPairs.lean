/- cookie.Pairs and its reference. -/
import Derived.Test.YtfmokccoilgpmaaGreatDoorValues
import Derived.Test.YtfmokccoilgpmaaGreatDoorList
import Derived.Test.YtfmokccoilgpmaaGreatDoorN06
import Derived.Test.YtfmokccoilgpmaaGreatDoorPA
import Derived.Test.YtfmokccoilgpmaaGreatDoorRefV
import Derived.Test.YtfmokccoilgpmaaGreatDoorPB
namespace Go.Proofs.YtfmokccoilgpmaaGreatDoor
open Go.RowKit Go.Own
set_option linter.unusedVariables false
set_option maxHeartbeats 2000000

theorem info_pair : (Tryz.prog.info? 90).map (fun i => (i.zero, i.size, i.bytes)) = some (some (.agg #[.string .empty, .string .empty]), 2, 32) := by kernel_rfl
def OwnP (B : Nat) (w : World) (v : Value) (l : List Fld) : Prop := w.ownsRow B 90 2 v l.length (fieldsV l)
theorem OwnP.rd {B : Nat} {w : World} {v : Value} {l : List Fld} (h : OwnP B w v l) : RdF w v l := Rd_owned h
theorem OwnP.snoc {B : Nat} {w : World} {v : Value} {l : List Fld} {n x : ByteArray} (h : w.ownsRow B 90 2 v (l.length + 1) (fieldsV l ++ [.string n, .string x])) : OwnP B w v (l ++ [⟨n, x⟩]) := by
  have e1 : (l ++ [(⟨n, x⟩ : Fld)]).length = l.length + 1 := by simp
  have e2 : fieldsV (l ++ [⟨n, x⟩]) = fieldsV l ++ [.string n, .string x] := by rw [fieldsV_append]; simp [fieldsV, Fld.cells]
  rw [OwnP, e1, e2]; exact h
theorem OwnP.below {B : Nat} {w w' : World} {v : Value} {l : List Fld} (h : OwnP B w v l) (hb : Below w.heap.size w w') : OwnP B w' v l := own_below h hb
theorem OwnP.cast {B : Nat} {w : World} {v : Value} {l m : List Fld} (h : OwnP B w v l) (e : l = m) : OwnP B w v m := e ▸ h
theorem OwnP.base {w : World} {B B' : Nat} {v : Value} {l : List Fld} (h : OwnP B w v l) (hB : B' ≤ B) : OwnP B' w v l := by
  obtain ⟨h1, h2⟩ := h
  refine ⟨h1, ?_⟩
  rcases h2 with h2 | ⟨g, cap, cur, q1, q2, q3⟩
  · exact Or.inl h2
  · exact Or.inr ⟨g, cap, cur, q1, Nat.le_trans hB q2, q3⟩
theorem str2_one (n x : ByteArray) : ∀ u ∈ [Value.string n, Value.string x], u.oneCell' = true := by
  intro u hu
  simp only [List.mem_cons, List.not_mem_nil, or_false] at hu
  rcases hu with rfl | rfl <;> rfl

def cookieS : ByteArray := ⟨#[67, 111, 111, 107, 105, 101]⟩
theorem values_cookie (l : List Fld) : valuesS l ⟨#[99, 111, 111, 107, 105, 101]⟩ = valuesS l cookieS := by
  unfold valuesS foldB
  have : lowerB (⟨#[99, 111, 111, 107, 105, 101]⟩ : ByteArray) = lowerB cookieS := by decide +kernel
  rw [this]
theorem values_sum (l : List Fld) (name : ByteArray) : ((valuesS l name).map fun s => s.size + 1).sum ≤ fsize l := by
  induction l with
  | nil => exact Nat.le_refl _
  | cons f l ih =>
    unfold valuesS fsize at ih ⊢
    rw [List.filter_cons, List.map_cons, List.sum_cons]
    cases h : foldB f.name name
    · simp only [Bool.false_eq_true, if_false]; omega
    · simp only [if_true, List.map_cons, List.sum_cons]; omega
theorem values_mem {l : List Fld} {name s : ByteArray} (h : s ∈ valuesS l name) : s.size ≤ fsize l := by
  obtain ⟨f, hf, rfl⟩ := List.mem_map.1 h
  have := fsize_mem (List.mem_filter.1 hf).1
  omega

theorem pairs_calls (va : Value) (l : List Fld) (w : World) (hE : Env w) (Ha : RdF w va l) (hl : fsize l ≤ 2000000) :
    Calls Tryz.prog 56 #[va] w fun e w' => (∃ v, e = .returned v ∧ OwnP w.heap.size w' v (pairsS (valuesS l cookieS))) ∧ Below w.heap.size w w' := by
  have hlen := fsize_length l
  have hf : ∀ f ∈ l, f.name.size ≤ maxLen := fun f hf => by have := fsize_mem hf; simp [maxLen]; omega
  have hsz : ∀ s ∈ valuesS l cookieS, s.size < 4294967281 := fun s hs => by have := values_mem hs; omega
  have hN : (pairsS (valuesS l cookieS)).length ≤ 4294967296 := by have := pairsS_length (valuesS l cookieS); have := values_sum l cookieS; omega
  go_enter Tryz.func56, Tryz.ntmps56
  go_wp2_with fail
  refine (values_calls va l cookieS _ Ha (by omega) (by decide) hf).mono ?_
  rintro e w1 ⟨⟨vv, rfl, hvo⟩, hb1⟩
  have hE1 := hE.below hb1
  have hvr := hvo.rd
  clear hvo hf hlen hl Ha
  generalize hvs : valuesS l cookieS = vs at *
  have HV := Lib.hid hvs
  clear hvs hE
  obtain ⟨a, cap, rfl, hlc, hcm, -, hc⟩ := hvr
  unfold maxLen at hcm
  go_wp2
  go_loopw [3, 14] (fun v i wr => ∃ k : Nat, k ≤ vs.length ∧ i = .int .i64 k ∧ OwnP w1.heap.size wr v (pairsS (vs.take k)) ∧ Below w1.heap.size w1 wr) (fun _ i _ => vs.length - (intOf i).toNat)
  case atStart => exact ⟨0, Nat.zero_le _, rfl, World.ownsRow_nil _ _ _ _, Below.refl _ _⟩
  case round =>
    obtain ⟨k, hk, rfl, hown, hbx⟩ := hrel
    obtain ⟨a0, c0, rfl, -, -, -⟩ := owned_slice hown
    by_cases hlt : k < vs.length
    · obtain ⟨b, off, rfl, hcell⟩ := (hc.below hbx).str k hlt
      have hsk := hsz vs[k] (List.getElem_mem hlt)
      have HS := Lib.hid (pairsS_succ vs k hlt)
      have HP := Lib.hid (fun j => Nat.le_trans (pairsS_part_le vs k hlt j) hN)
      have HZ := Lib.hid (fun (p : ByteArray) (hp : p ∈ splitS 59 vs[k]) => Nat.lt_of_le_of_lt (splitS_size 59 vs[k] p hp) hsk)
      have HZL := Lib.hid (splitS_length 59 vs[k])
      clear hsz
      go_wp2_with fail
      refine (strsplit_calls 59 vs[k] _ (hE1.below hbx) hsk).mono ?_
      rintro e w2 ⟨⟨vp, rfl, hpo⟩, hb2⟩
      obtain ⟨ap, cp, rfl, hp1, hp2, -⟩ := owned_slice hpo
      have hown1 := hown.below hb2
      have hap := ApartB.later hpo hown
      have hpr : RdC w2 ap (strsV (splitS 59 vs[k])) := by obtain ⟨_, _, e, _, _, _, h⟩ := hpo.rd; injection e with e1 e2 e3; subst e1; exact h
      have hbxw := Below.self_trans hbx hb2
      clear hpo hown hb2 hbx
      generalize hps : splitS 59 vs[k] = ps at *
      clear hps
      have hpl : ps.length ≤ 4294967281 := by have := HZL.out; omega
      go_wp2
      go_loopw [3, 21] (fun v i wr => ∃ (j : Nat) (a2 : Option Addr) (c2 : Nat) (cur : List Fld), j ≤ ps.length ∧ i = .int .i64 j ∧ v = .slice a2 cur.length c2 ∧ OwnP w1.heap.size wr v cur ∧ Hid (cur = pairsS (vs.take k) ++ pairsP (ps.take j)) ∧ Below w1.heap.size w1 wr ∧ RdC wr ap (strsV ps) ∧ ApartB wr ap a2) (fun _ i _ => ps.length - (intOf i).toNat)
      case atStart => exact ⟨0, a0, c0, _, Nat.zero_le _, rfl, rfl, hown1, Lib.hid (by simp [pairsP]), hbxw, hpr, hap⟩
      case round =>
        clear hown1 hbxw hpr hap
        obtain ⟨j, a2, c2, cur, hj, rfl, rfl, hown2, hcur, hbx2, hpr2, hap2⟩ := hrel
        by_cases hlt2 : j < ps.length
        · obtain ⟨bp, op, rfl, hcell2⟩ := hpr2.str j hlt2
          have hps := HZ.out ps[j] (List.getElem_mem hlt2)
          have hpm : ps[j].size ≤ maxLen := by simp [maxLen]; omega
          have hpt : (trimB ps[j]).size < 4294967281 := Nat.lt_of_le_of_lt (trimB_size _) hps
          have hlen : cur.length ≤ 4294967296 := by rw [hcur.out]; exact HP.out j
          cases h1 : hasB (bl (trimB ps[j])) 61 with
          | true =>
            cases h2 : token (before 61 (bl (trimB ps[j]))) with
            | true =>
              have HY := Lib.hid (pairsP_yes ps j hlt2 (pairF_yes h1 h2))
              have hroom : (cur.length + 1) * 32 ≤ 140737488355328 := by omega
              have hroom2 : cur.length + 1 ≤ maxLen := by unfold maxLen; omega
              have hnz : (bs (before 61 (bl (trimB ps[j])))).size ≤ maxLen := by rw [bs_size]; have := before_len 61 (bl (trimB ps[j])); rw [bl_length] at this; simp [maxLen]; omega
              go_wp2_with fail
              refine (trim_calls ps[j] _ hpm).mono ?_
              rintro e w3 ⟨rfl, rfl⟩
              go_wp2_with fail
              refine (strcut_calls 61 (trimB ps[j]) _ (hE1.below hbx2) hpt).mono ?_
              rintro e w3 ⟨rfl, hb3⟩
              rw [h1]
              simp only [if_true]
              have HBX := Below.self_trans hbx2 hb3
              have hown3 := hown2.below hb3
              have hpr3 := hpr2.below hb3
              have hap3 := hap2.next hb3.size (Or.inl rfl)
              clear hb3 hbx2 hown2 hpr2 hap2 hcell2
              go_wp2_with fail
              refine (token_calls _ _ hnz).mono ?_
              rintro e w4 ⟨rfl, rfl⟩
              rw [bl_bs, h2]
              go_wp2_with (at_builtin; refine wpList_append_one rfl (.tmp 37) (.tmp 41) 93 rfl w1 HBX 90 (.agg #[.string .empty, .string .empty]) 2 32 Tryz.underlying93 info_pair rfl (by decide) a2 cur.length c2 (fieldsV cur) [.string (bs (before 61 (bl (trimB ps[j])))), .string (bs (behind 61 (bl (trimB ps[j]))))] rfl (str2_one _ _) rfl hown3 rfl hroom hroom2 ?_; intro a3 c3 w4 hb4 hown4 hg4 hw4)
              have hx := hap3.rd hpr3 hg4
              have hy := hap3.next hg4.size hw4
              go_roundw
              case rel => exact ⟨j + 1, a3, c3, cur ++ [⟨bs (before 61 (bl (trimB ps[j]))), bs (behind 61 (bl (trimB ps[j])))⟩], by omega, by go_num, by simp, OwnP.snoc hown4, Lib.hid (by rw [HY.out, ← List.append_assoc, ← hcur.out]), hb4, hx, hy⟩
              case measure => simp [intOf]; omega
            | false =>
              have HY := Lib.hid (pairsP_no ps j hlt2 (pairF_no2 h2))
              have hnz : (bs (before 61 (bl (trimB ps[j])))).size ≤ maxLen := by rw [bs_size]; have := before_len 61 (bl (trimB ps[j])); rw [bl_length] at this; simp [maxLen]; omega
              go_wp2_with fail
              refine (trim_calls ps[j] _ hpm).mono ?_
              rintro e w3 ⟨rfl, rfl⟩
              go_wp2_with fail
              refine (strcut_calls 61 (trimB ps[j]) _ (hE1.below hbx2) hpt).mono ?_
              rintro e w3 ⟨rfl, hb3⟩
              rw [h1]
              simp only [if_true]
              have HBX := Below.self_trans hbx2 hb3
              have hown3 := hown2.below hb3
              have hpr3 := hpr2.below hb3
              have hap3 := hap2.next hb3.size (Or.inl rfl)
              clear hb3 hbx2 hown2 hpr2 hap2 hcell2
              go_wp2_with fail
              refine (token_calls _ _ hnz).mono ?_
              rintro e w4 ⟨rfl, rfl⟩
              rw [bl_bs, h2]
              go_wp2
              go_roundw
              case rel => exact ⟨j + 1, a2, c2, cur, by omega, by go_num, rfl, hown3, Lib.hid (by rw [HY.out]; exact hcur.out), HBX, hpr3, hap3⟩
              case measure => simp [intOf]; omega
          | false =>
            have HY := Lib.hid (pairsP_no ps j hlt2 (pairF_no1 h1))
            go_wp2_with fail
            refine (trim_calls ps[j] _ hpm).mono ?_
            rintro e w3 ⟨rfl, rfl⟩
            go_wp2_with fail
            refine (strcut_calls 61 (trimB ps[j]) _ (hE1.below hbx2) hpt).mono ?_
            rintro e w3 ⟨rfl, hb3⟩
            rw [h1]
            simp only [if_false, Bool.false_eq_true]
            have HBX := Below.self_trans hbx2 hb3
            have hown3 := hown2.below hb3
            have hpr3 := hpr2.below hb3
            have hap3 := hap2.next hb3.size (Or.inl rfl)
            clear hb3 hbx2 hown2 hpr2 hap2 hcell2
            go_wp2
            go_roundw
            case rel => exact ⟨j + 1, a2, c2, cur, by omega, by go_num, rfl, hown3, Lib.hid (by rw [HY.out]; exact hcur.out), HBX, hpr3, hap3⟩
            case measure => simp [intOf]; omega
        · have ht : ps.take j = ps := List.take_of_length_le (by omega)
          have hc3 := hcur.out
          rw [ht, ← HS.out] at hc3
          have hown3 := OwnP.cast hown2 hc3
          clear ht hcur hown2
          subst hc3
          go_wp2
          go_roundw
          case rel => exact ⟨k + 1, by omega, by go_num, hown3, hbx2⟩
          case measure => simp [intOf]; omega
    · have ht : vs.take k = vs := List.take_of_length_le (by omega)
      have hown2 := OwnP.cast hown (congrArg pairsS ht)
      clear hc ht
      go_wp2
      go_ret
      exact ⟨⟨.slice a0 (pairsS (vs.take k)).length c0, rfl, by rw [HV.out]; exact hown2.base hb1.size⟩, Below.self_trans hb1 hbx⟩
theorem refPairs_calls (va : Value) (l : List Fld) (w : World) (Ha : RdF w va l) (hl : fsize l ≤ 2000000) :
    Calls Tryz.prog 62 #[va] w fun e w' => (∃ v, e = .returned v ∧ OwnP w.heap.size w' v (pairsS (valuesS l cookieS))) ∧ Below w.heap.size w w' := by
  have hlen := fsize_length l
  have hf : ∀ f ∈ l, f.name.size ≤ maxLen := fun f hf => by have := fsize_mem hf; simp [maxLen]; omega
  have hsz : ∀ s ∈ valuesS l cookieS, s.size < 4294967281 := fun s hs => by have := values_mem hs; omega
  have hN : (pairsS (valuesS l cookieS)).length ≤ 4294967296 := by have := pairsS_length (valuesS l cookieS); have := values_sum l cookieS; omega
  go_enter Tryz.func62, Tryz.ntmps62
  go_wp2_with fail
  refine (refValues_calls va l ⟨#[99, 111, 111, 107, 105, 101]⟩ _ Ha (by omega) (by decide) hf).mono ?_
  rintro e w1 ⟨⟨vv, rfl, hvo⟩, hb1⟩
  have hvr := hvo.rd
  rw [values_cookie] at hvr
  clear hvo hf hlen hl Ha
  generalize hvs : valuesS l cookieS = vs at *
  have HV := Lib.hid hvs
  clear hvs
  obtain ⟨a, cap, rfl, hlc, hcm, -, hc⟩ := hvr
  unfold maxLen at hcm
  go_wp2
  go_loopw [3, 5] (fun v i wr => ∃ k : Nat, k ≤ vs.length ∧ i = .int .i64 k ∧ OwnP w1.heap.size wr v (pairsS (vs.take k)) ∧ Below w1.heap.size w1 wr) (fun _ i _ => vs.length - (intOf i).toNat)
  case atStart => exact ⟨0, Nat.zero_le _, rfl, World.ownsRow_nil _ _ _ _, Below.refl _ _⟩
  case round =>
    obtain ⟨k, hk, rfl, hown, hbx⟩ := hrel
    obtain ⟨a0, c0, rfl, -, -, -⟩ := owned_slice hown
    by_cases hlt : k < vs.length
    · obtain ⟨b, off, rfl, hcell⟩ := (hc.below hbx).str k hlt
      have hsk := hsz vs[k] (List.getElem_mem hlt)
      have HS := Lib.hid (pairsS_succ vs k hlt)
      have HP := Lib.hid (fun j => Nat.le_trans (pairsS_part_le vs k hlt j) hN)
      have HZ := Lib.hid (fun (p : ByteArray) (hp : p ∈ splitS 59 vs[k]) => Nat.lt_of_le_of_lt (splitS_size 59 vs[k] p hp) hsk)
      have HZL := Lib.hid (splitS_length 59 vs[k])
      clear hsz
      go_wp2_with fail
      refine (refSplit_calls 59 vs[k] _ (by omega)).mono ?_
      rintro e w2 ⟨⟨vp, rfl, hpo⟩, hb2⟩
      obtain ⟨ap, cp, rfl, hp1, hp2, -⟩ := owned_slice hpo
      have hown1 := hown.below hb2
      have hap := ApartB.later hpo hown
      have hpr : RdC w2 ap (strsV (splitS 59 vs[k])) := by obtain ⟨_, _, e, _, _, _, h⟩ := hpo.rd; injection e with e1 e2 e3; subst e1; exact h
      have hbxw := Below.self_trans hbx hb2
      clear hpo hown hb2 hbx
      generalize hps : splitS 59 vs[k] = ps at *
      clear hps
      have hpl : ps.length ≤ 4294967281 := by have := HZL.out; omega
      go_wp2
      go_loopw [3, 7] (fun v i wr => ∃ (j : Nat) (a2 : Option Addr) (c2 : Nat) (cur : List Fld), j ≤ ps.length ∧ i = .int .i64 j ∧ v = .slice a2 cur.length c2 ∧ OwnP w1.heap.size wr v cur ∧ Hid (cur = pairsS (vs.take k) ++ pairsP (ps.take j)) ∧ Below w1.heap.size w1 wr ∧ RdC wr ap (strsV ps) ∧ ApartB wr ap a2) (fun _ i _ => ps.length - (intOf i).toNat)
      case atStart => exact ⟨0, a0, c0, _, Nat.zero_le _, rfl, rfl, hown1, Lib.hid (by simp [pairsP]), hbxw, hpr, hap⟩
      case round =>
        clear hown1 hbxw hpr hap
        obtain ⟨j, a2, c2, cur, hj, rfl, rfl, hown2, hcur, hbx2, hpr2, hap2⟩ := hrel
        by_cases hlt2 : j < ps.length
        · obtain ⟨bp, op, rfl, hcell2⟩ := hpr2.str j hlt2
          have hps := HZ.out ps[j] (List.getElem_mem hlt2)
          have hpm : ps[j].size ≤ maxLen := by simp [maxLen]; omega
          have hpt : (trimB ps[j]).size < 4294967281 := Nat.lt_of_le_of_lt (trimB_size _) hps
          have hlen : cur.length ≤ 4294967296 := by rw [hcur.out]; exact HP.out j
          have hpn : (trimB ps[j]).size ≤ 9223372036854775807 := by omega
          have HL := Lib.hid (bl_length (trimB ps[j]))
          go_wp2_with fail
          refine (refTrim_calls ps[j] _ hpm).mono ?_
          rintro e w3 ⟨rfl, rfl⟩
          go_wp2
          go_loop [3, 9] (fun v i => ∃ m : Nat, m ≤ (trimB ps[j]).size ∧ v = .slice a2 cur.length c2 ∧ i = .int .i64 m ∧ Hid (hasB ((bl (trimB ps[j])).take m) 61 = false)) (fun _ i => (trimB ps[j]).size - (intOf i).toNat)
          case atStart => exact ⟨0, Nat.zero_le _, rfl, rfl, Lib.hid rfl⟩
          case round =>
            obtain ⟨m, hm, rfl, rfl, HM⟩ := hrel
            by_cases hlt3 : m < (trimB ps[j]).size
            · have hm2 : m < (bl (trimB ps[j])).length := by rw [HL.out]; exact hlt3
              obtain ⟨x, hx, hsx⟩ := byte_split (trimB ps[j]) m hlt3
              by_cases he : x = 61
              · have hg : ((x.toNat : Int) == 61) = true := by rw [he]; rfl
                have hcut := before_at 61 (bl (trimB ps[j])) m hm2 HM.out (hx.trans he)
                have hext := cut_ext hcut
                have hbt : bl ((trimB ps[j]).extract 0 m) = before 61 (bl (trimB ps[j])) := by rw [← hext.1, bl_bs]
                have hex : ((trimB ps[j]).extract 0 m).size ≤ maxLen := by rw [ByteArray.size_extract]; simp [maxLen]; omega
                have hk1 : (m : Int) + 1 ≤ ((trimB ps[j]).size : Int) := by omega
                have hk3 : (m : Int) < ((trimB ps[j]).size : Int) := by omega
                have hk4 : m + 1 ≤ (trimB ps[j]).size := hlt3
                cases h2 : token (before 61 (bl (trimB ps[j]))) with
                | true =>
                  have HY := Lib.hid (pairsP_yes ps j hlt2 (pairF_yes hcut.1 h2))
                  rw [hext.1, hext.2] at HY
                  have hroom : (cur.length + 1) * 32 ≤ 140737488355328 := by omega
                  have hroom2 : cur.length + 1 ≤ maxLen := by unfold maxLen; omega
                  have HT := Lib.hid hbt
                  have HT2 := Lib.hid h2
                  clear hx he HM hcut hext hbt h2
                  go_wp2_with fail
                  refine (refToken_calls _ _ hex).mono ?_
                  rintro e w4 ⟨rfl, rfl⟩
                  rw [HT.out, HT2.out]
                  go_wp2_with fail
                  have hk5 : (0 : Int) ≤ (m : Int) + 1 := by omega
                  have hk6 : ((m : Int) + 1).toNat = m + 1 := by omega
                  have hk7 : IntKind.i64.wrap ((m : Int) + 1) = (m : Int) + 1 := IntWalk.i64_in _ (by omega)
                  go_region_law ((refine step_append_one rfl (.tmp 48) (.tmp 57) 93 rfl w1 hbx2.drew 90 (.agg #[.string .empty, .string .empty]) 2 32 Tryz.underlying93 info_pair rfl (by decide) a2 cur.length c2 (fieldsV cur) [.string ((trimB ps[j]).extract 0 m), .string ((trimB ps[j]).extract (m + 1) (trimB ps[j]).size)] rfl (str2_one _ _) rfl hown2 rfl hroom hroom2 ?_; intro a3 c3 w4 hb4 hown4 hg4 hw4))
                  clear hk5 hk6 hk7
                  have hg5 := grownBy_trans (grownBy_below ((Below.refl wr.heap.size wr).drew) (blk a2)) hg4
                  have hx := hap2.rd hpr2 hg5
                  have hy := hap2.next hg5.size hw4
                  clear hg4 hg5 hown2 hpr2 hap2 hw4
                  go_wp2
                  go_roundw
                  case rel => exact ⟨j + 1, a3, c3, cur ++ [⟨(trimB ps[j]).extract 0 m, (trimB ps[j]).extract (m + 1) (trimB ps[j]).size⟩], by omega, by go_num, by simp, OwnP.snoc hown4, Lib.hid (by rw [HY.out, ← List.append_assoc, ← hcur.out]), hb4, hx, hy⟩
                  case measure => simp [intOf]; omega
                | false =>
                  have HY := Lib.hid (pairsP_no ps j hlt2 (pairF_no2 h2))
                  have HT := Lib.hid hbt
                  have HT2 := Lib.hid h2
                  clear hx he HM hcut hext hbt h2
                  go_wp2_with fail
                  refine (refToken_calls _ _ hex).mono ?_
                  rintro e w4 ⟨rfl, rfl⟩
                  rw [HT.out, HT2.out]
                  go_wp2
                  go_roundw
                  case rel => exact ⟨j + 1, a2, c2, cur, by omega, by go_num, rfl, hown2, Lib.hid (by rw [HY.out]; exact hcur.out), hbx2, hpr2, hap2⟩
                  case measure => simp [intOf]; omega
              · have hg : ((x.toNat : Int) == 61) = false := by
                  rw [beq_eq_false_iff_ne]; intro e; exact he (UInt8.toNat_inj.1 (by rw [show (61 : UInt8).toNat = 61 from rfl]; omega))
                have HR := Lib.hid (hasB_succ (bl (trimB ps[j])) m hm2 HM.out (by rw [hx]; exact he))
                clear HM he hx
                go_wp2
                go_round
                case rel => exact ⟨m + 1, by omega, rfl, by go_num, HR⟩
                case measure => simp [intOf]; omega
            · have HR := Lib.hid (hasB_full (bl (trimB ps[j])) m (by rw [HL.out]; omega) HM.out)
              have HY := Lib.hid (pairsP_no ps j hlt2 (pairF_no1 HR.out))
              clear HM HR
              go_wp2
              go_roundw
              case rel => exact ⟨j + 1, a2, c2, cur, by omega, by go_num, rfl, hown2, Lib.hid (by rw [HY.out]; exact hcur.out), hbx2, hpr2, hap2⟩
              case measure => simp [intOf]; omega
        · have ht : ps.take j = ps := List.take_of_length_le (by omega)
          have hc3 := hcur.out
          rw [ht, ← HS.out] at hc3
          have hown3 := OwnP.cast hown2 hc3
          clear ht hcur hown2
          subst hc3
          go_wp2
          go_roundw
          case rel => exact ⟨k + 1, by omega, by go_num, hown3, hbx2⟩
          case measure => simp [intOf]; omega
    · have ht : vs.take k = vs := List.take_of_length_le (by omega)
      have hown2 := OwnP.cast hown (congrArg pairsS ht)
      clear hc ht
      go_wp2
      go_ret
      exact ⟨⟨.slice a0 (pairsS (vs.take k)).length c0, rfl, by rw [HV.out]; exact hown2.base hb1.size⟩, Below.self_trans hb1 hbx⟩
end Go.Proofs.YtfmokccoilgpmaaGreatDoor
