/- cookie.Find, ID, Issue and their references. -/
import Derived.Test.YtfmokccoilgpmaaGreatDoorPairs
namespace Go.Proofs.YtfmokccoilgpmaaGreatDoor
open Go.RowKit Go.Own
set_option linter.unusedVariables false
set_option maxHeartbeats 1000000

/-- what first returns of a list of pairs -/
def foundV : Option Fld → Value
  | some f => .tuple #[.agg #[.string f.name, .string f.val], .bool true]
  | none => .tuple #[.agg #[.string ⟨#[]⟩, .string ⟨#[]⟩], .bool false]

theorem find1_calls (n v name : ByteArray) (p : Nat) (w : World) (h : w.cell? ⟨p, 0, none⟩ = some (.string name)) :
    Calls Tryz.prog 57 #[.agg #[.string n, .string v], .pointer (some ⟨p, 0, none⟩)] w fun e w' => e = .returned (.bool (seq n name)) ∧ Below w.heap.size w w' := by
  have hp := World.block_lt_of_cell? w _ h
  go_enter Tryz.func57, Tryz.ntmps57
  go_wp2
  go_ret
  exact ⟨rfl, (Below.refl _ _).alloc (Nat.le_refl _) _⟩

theorem firstP_calls (va : Value) (l : List Fld) (p : Nat) (name : ByteArray) (w : World) (Ha : RdF w va l) (hp : w.cell? ⟨p, 0, none⟩ = some (.string name)) :
    Calls Tryz.prog 55 #[va, .func (.func 57) #[] #[.pointer (some ⟨p, 0, none⟩)]] w fun e w' => e = .returned (foundV (findP l name)) ∧ Below w.heap.size w w' := by
  obtain ⟨a, cap, rfl, hlc, hcm, -, hc⟩ := Ha
  unfold maxLen at hcm
  have HP := Lib.hid hp
  clear hp
  go_enter Tryz.func55, Tryz.ntmps55
  go_wp2
  go_loopw [11] (fun i wr => ∃ k : Nat, k ≤ l.length ∧ i = .int .i64 k ∧ Below (w.alloc (.cells #[.string ⟨#[]⟩, .string ⟨#[]⟩] 90)).heap.size (w.alloc (.cells #[.string ⟨#[]⟩, .string ⟨#[]⟩] 90)) wr ∧ Hid (findP (l.take k) name = none)) (fun i _ => l.length - (intOf i).toNat)
  case atStart => exact ⟨0, Nat.zero_le _, rfl, Below.refl _ _, Lib.hid rfl⟩
  case round =>
    obtain ⟨k, hk, rfl, hb, HD⟩ := hrel
    have hbw := kept_below hb
    by_cases hlt : k < l.length
    · obtain ⟨b, off, rfl, hcell, hcell2⟩ := (hc.below hbw).fld k hlt
      have hki : (k : Int) < (l.length : Int) := by omega
      have hp := cell_below hbw HP.out
      have hlt0 := kept_lt hb
      clear hc
      cases hs : seq l[k].name name with
      | true =>
        have HF := Lib.hid (findP_hit l name k hlt HD.out hs)
        go_wp2_with fail
        refine (find1_calls _ _ name p _ (cell_below ((Below.refl _ _).alloc (Nat.le_refl _) _) hp)).mono ?_
        rintro e w1 ⟨rfl, hb1⟩
        rw [hs]
        have k0 := (keptN hb1 0).1
        have k1 := (keptN hb1 1).1
        have hb2 := kept_below hb1
        have HB := Below.self_trans hb hb2
        have c0 := (keptN HB 0).1
        have c1 := (keptN HB 1).1
        have f0 := (keptN HB 0).2
        have f1 := (keptN HB 1).2
        have hz := kept_lt HB
        have hz1 := kept_lt hb1
        have HBW := kept_below HB
        clear hb1 hb2 HB hb hbw hcell hcell2 hp
        go_wp2
        refine bodyPost_ret (v := .tuple #[.agg #[.string l[k].name, .string l[k].val], .bool true]) (by simp [results, Tryz.results55, go_sem, c0, c1]) rfl ⟨by rw [HF.out]; rfl, ?_⟩
        repeat (first | exact HBW | refine Below.alloc ?_ ?_ _ | refine Below.setCell ?_ ?_ _)
        all_goals (first | exact Nat.le_refl _ | (simp; done) | (simp; omega) | omega)
      | false =>
        have HF := Lib.hid (findP_skip l name k hlt HD.out hs)
        go_wp2_with fail
        refine (find1_calls _ _ name p _ (cell_below ((Below.refl _ _).alloc (Nat.le_refl _) _) hp)).mono ?_
        rintro e w1 ⟨rfl, hb1⟩
        rw [hs]
        have HB := Below.self_trans hb (kept_below hb1)
        clear hb1 hb hbw hcell hcell2 hp
        go_wp2
        go_roundw
        case rel => exact ⟨k + 1, by omega, by go_num, HB, HF⟩
        case measure => simp [intOf]; omega
    · have HF := Lib.hid (findP_end l name k (by omega) HD.out)
      have c0 := (keptN hb 0).1
      have c1 := (keptN hb 1).1
      have f0 := (keptN hb 0).2
      have f1 := (keptN hb 1).2
      have hz := kept_lt hb
      have d0 : ((wr.setCell ⟨w.heap.size, 0, none⟩ (.string ⟨#[]⟩)).setCell ⟨w.heap.size, 1, none⟩ (.string ⟨#[]⟩)).cell? ⟨w.heap.size, 0, none⟩ = some (.string ⟨#[]⟩) := by
        rw [World.cell?_setCell_other _ _ _ _ (by simp), World.cell?_setCell_same _ _ _ c0]
      have d1 : ((wr.setCell ⟨w.heap.size, 0, none⟩ (.string ⟨#[]⟩)).setCell ⟨w.heap.size, 1, none⟩ (.string ⟨#[]⟩)).cell? ⟨w.heap.size, 1, none⟩ = some (.string ⟨#[]⟩) := by
        refine World.cell?_setCell_same _ _ _ (u := .string ⟨#[]⟩) ?_
        rw [World.cell?_setCell_other _ _ _ _ (by simp)]; exact c1
      have d2 := fun o => cell_below ((Below.refl _ _).alloc (Nat.le_refl _) o) d0
      have d3 := fun o => cell_below ((Below.refl _ _).alloc (Nat.le_refl _) o) d1
      clear hc hb
      go_wp2
      refine bodyPost_ret (v := .tuple #[.agg #[.string ⟨#[]⟩, .string ⟨#[]⟩], .bool false]) (by simp [results, Tryz.results55, go_sem, d2, d3]) rfl ⟨by rw [HF.out]; rfl, ?_⟩
      repeat (first | exact hbw | refine Below.alloc ?_ ?_ _ | refine Below.setCell ?_ ?_ _)
      all_goals (first | exact Nat.le_refl _ | (simp; done) | (simp; omega) | omega)

/-- what Find returns -/
def findV : Option Fld → Value
  | some f => .tuple #[.string f.val, .bool true]
  | none => .tuple #[.string ⟨#[]⟩, .bool false]

theorem find_calls (va : Value) (l : List Fld) (name : ByteArray) (w : World) (hE : Env w) (Ha : RdF w va l) (hl : fsize l ≤ 2000000) :
    Calls Tryz.prog 24 #[va, .string name] w fun e w' => e = .returned (findV (findP (pairsS (valuesS l cookieS)) name)) ∧ Below w.heap.size w w' := by
  go_enter Tryz.func24, Tryz.ntmps24
  go_wp2_with fail
  refine (pairs_calls va l _ (hE.below ((Below.refl _ _).alloc (Nat.le_refl _) _)) (Ha.below ((Below.refl _ _).alloc (Nat.le_refl _) _)) hl).mono ?_
  rintro e w1 ⟨⟨v, rfl, hown⟩, hb⟩
  have k0 := (keptN hb 0).1
  have HB := kept_below hb
  have hr := hown.rd
  generalize hps : pairsS (valuesS l cookieS) = ps at *
  have HPS := Lib.hid hps
  clear hown hb hE Ha hl hps
  go_wp2_with fail
  refine (firstP_calls v ps w.heap.size name _ hr k0).mono ?_
  rintro e w2 ⟨rfl, hb2⟩
  have HB2 := Below.self_trans HB hb2
  clear hb2 HB hr k0
  generalize hq : findP ps name = q
  have HQ := Lib.hid hq
  clear hq
  cases q with
  | some q =>
    unfold foundV
    simp only
    go_wp2
    go_ret2
    exact ⟨by rw [HPS.out, HQ.out]; rfl, HB2.alloc HB2.size _⟩
  | none =>
    unfold foundV
    simp only
    go_wp2
    go_ret2
    exact ⟨by rw [HPS.out, HQ.out]; rfl, HB2.alloc HB2.size _⟩

theorem refFind_calls (va : Value) (l : List Fld) (name : ByteArray) (w : World) (Ha : RdF w va l) (hl : fsize l ≤ 2000000) :
    Calls Tryz.prog 28 #[va, .string name] w fun e w' => e = .returned (findV (findP (pairsS (valuesS l cookieS)) name)) ∧ Below w.heap.size w w' := by
  have hpl : (pairsS (valuesS l cookieS)).length ≤ 4294967296 := by have := pairsS_length (valuesS l cookieS); have := values_sum l cookieS; omega
  go_enter Tryz.func28, Tryz.ntmps28
  go_wp2_with fail
  refine (refPairs_calls va l _ Ha hl).mono ?_
  rintro e w1 ⟨⟨v, rfl, hown⟩, hb⟩
  have hr := hown.rd
  generalize hps : pairsS (valuesS l cookieS) = ps at *
  have HPS := Lib.hid hps
  clear hown Ha hl hps
  obtain ⟨a, cap, rfl, hlc, hcm, -, hc⟩ := hr
  unfold maxLen at hcm
  go_wp2
  go_loop [7] (fun i => ∃ k : Nat, k ≤ ps.length ∧ i = .int .i64 k ∧ Hid (findP (ps.take k) name = none)) (fun i => ps.length - (intOf i).toNat)
  case atStart => exact ⟨0, Nat.zero_le _, rfl, Lib.hid rfl⟩
  case round =>
    obtain ⟨k, hk, rfl, HD⟩ := hrel
    by_cases hlt : k < ps.length
    · obtain ⟨b, off, rfl, hcell, hcell2⟩ := hc.fld k hlt
      have hki : (k : Int) < (ps.length : Int) := by omega
      clear hc
      cases hs : seq ps[k].name name with
      | true =>
        have HF := Lib.hid (findP_hit ps name k hlt HD.out hs)
        have hs2 : (ps[k].name.toList == name.toList) = true := hs
        clear hs
        go_wp2
        go_ret2
        exact ⟨by rw [HPS.out, HF.out]; rfl, hb⟩
      | false =>
        have HF := Lib.hid (findP_skip ps name k hlt HD.out hs)
        have hs2 : (ps[k].name.toList == name.toList) = false := hs
        clear hs
        go_wp2
        go_round
        case rel => exact ⟨k + 1, by omega, by go_num, HF⟩
        case measure => simp [intOf]; omega
    · have HF := Lib.hid (findP_end ps name k (by omega) HD.out)
      clear hc
      go_wp2
      go_ret2
      exact ⟨by rw [HPS.out, HF.out]; rfl, hb⟩

/-! ### ID -/
theorem id1_calls (c : UInt8) (w : World) :
    Calls Tryz.prog 59 #[.int .u8 (c.toNat : Int)] w fun e w' => e = .returned (.bool (!hexc c)) ∧ w = w' := by
  go_enter Tryz.func59, Tryz.ntmps59
  by_cases h1 : c.toNat < 48
  · have e : hexc c = false := by simp [hexc, digitB]; omega
    have h2 : (c.toNat : Int) < 48 := by omega
    have h3 : (c.toNat : Int) < 97 := by omega
    rw [e]
    go_wp2
    go_ret
    exact ⟨rfl, rfl⟩
  · have h2 : ¬ (c.toNat : Int) < 48 := by omega
    by_cases h4 : c.toNat ≤ 57
    · have e : hexc c = true := by simp [hexc, digitB]; omega
      have h5 : ¬ (57 : Int) < (c.toNat : Int) := by omega
      rw [e]
      go_wp2
      go_ret
      exact ⟨rfl, rfl⟩
    · have h5 : (57 : Int) < (c.toNat : Int) := by omega
      by_cases h6 : c.toNat < 97
      · have e : hexc c = false := by simp [hexc, digitB]; omega
        have h7 : (c.toNat : Int) < 97 := by omega
        rw [e]
        go_wp2
        go_ret
        exact ⟨rfl, rfl⟩
      · have h7 : ¬ (c.toNat : Int) < 97 := by omega
        by_cases h8 : c.toNat ≤ 102
        · have e : hexc c = true := by simp [hexc, digitB]; omega
          have h9 : ¬ (102 : Int) < (c.toNat : Int) := by omega
          rw [e]
          go_wp2
          go_ret
          exact ⟨rfl, rfl⟩
        · have e : hexc c = false := by simp [hexc, digitB]; omega
          have h9 : (102 : Int) < (c.toNat : Int) := by omega
          rw [e]
          go_wp2
          go_ret
          exact ⟨rfl, rfl⟩

theorem firstB_calls (va : Value) (l : List UInt8) (w : World) (Ha : RdB w va l) :
    Calls Tryz.prog 58 #[va, .func (.func 59) #[] #[]] w fun e w' => (∃ c : Int, e = .returned (.tuple #[.int .u8 c, .bool (!l.all hexc)])) ∧ w = w' := by
  obtain ⟨a, cap, rfl, hlc, hcm, -, hc⟩ := Ha
  unfold maxLen at hcm
  go_enter Tryz.func58, Tryz.ntmps58
  go_wp2
  go_loop [11] (fun i => ∃ k : Nat, k ≤ l.length ∧ i = .int .i64 k ∧ Hid ((l.take k).all hexc = true)) (fun i => l.length - (intOf i).toNat)
  case atStart => exact ⟨0, Nat.zero_le _, rfl, Lib.hid rfl⟩
  case round =>
    obtain ⟨k, hk, rfl, HD⟩ := hrel
    by_cases hlt : k < l.length
    · obtain ⟨b, off, rfl, hcell⟩ := hc.byte k hlt
      have hki : (k : Int) < (l.length : Int) := by omega
      clear hc
      cases hs : hexc l[k] with
      | true =>
        have HF := Lib.hid (all_take_succ l k hlt HD.out hs)
        go_wp2_with fail
        refine (id1_calls l[k] _).mono ?_
        rintro e w1 ⟨rfl, rfl⟩
        rw [hs]
        go_wp2
        go_round
        case rel => exact ⟨k + 1, by omega, by go_num, HF⟩
        case measure => simp [intOf]; omega
      | false =>
        have HF := Lib.hid (all_fails l k hlt hs)
        go_wp2_with fail
        refine (id1_calls l[k] _).mono ?_
        rintro e w1 ⟨rfl, rfl⟩
        rw [hs]
        go_wp2
        go_ret2
        exact ⟨⟨_, by rw [HF.out]; rfl⟩, rfl⟩
    · have HF := Lib.hid (all_full l k (by omega) HD.out)
      clear hc
      go_wp2
      go_ret2
      exact ⟨⟨_, by rw [HF.out]; rfl⟩, rfl⟩

theorem cid_calls (s : ByteArray) (w : World) (hs : s.size ≤ maxLen) :
    Calls Tryz.prog 25 #[.string s] w fun e w' => e = .returned (.bool (idB s)) ∧ Below w.heap.size w w' := by
  go_enter Tryz.func25, Tryz.ntmps25
  go_wp2_with (refine wpList_strbytes rfl 9 33 _ rfl _ rfl 5 Tryz.underlying9 Tryz.underlying33 Tryz.underlying5 ?_ hs)
  intro ad cap w1 hb1 hc1 hc2 hr
  have hrd : RdB w1 (.slice (some ad) s.size cap) (bl s) := RdB_of (bl_length s).symm hc1 hc2 (fun h => nomatch h) hr
  have HI := Lib.hid (show idB s = ((bl s).all hexc && s.size == 16) from rfl)
  clear hr hc1 hc2
  go_wp2_with fail
  refine (firstB_calls _ (bl s) _ hrd).mono ?_
  rintro e w2 ⟨⟨c, rfl⟩, rfl⟩
  clear hrd
  generalize hq : (bl s).all hexc = q
  have HQ := Lib.hid hq
  clear hq
  by_cases h16 : s.size = 16
  · have hz : ((s.size : Int) == 16) = true := by rw [beq_iff_eq]; omega
    have HZ := Lib.hid (show idB s = q by rw [HI.out, HQ.out, beq_iff_eq.2 h16, Bool.and_true])
    clear h16
    cases q
    all_goals
      go_wp2
      go_ret
      exact ⟨by rw [HZ.out]; rfl, hb1⟩
  · have hz : ((s.size : Int) == 16) = false := by rw [beq_eq_false_iff_ne]; omega
    have HZ := Lib.hid (show idB s = false by rw [HI.out, beq_eq_false_iff_ne.2 h16, Bool.and_false])
    clear h16
    cases q
    all_goals
      go_wp2
      go_ret
      exact ⟨by rw [HZ.out]; rfl, hb1⟩

theorem refID_calls (s : ByteArray) (w : World) (hs : s.size ≤ maxLen) :
    Calls Tryz.prog 29 #[.string s] w fun e w' => e = .returned (.bool (idB s)) ∧ w = w' := by
  unfold maxLen at hs
  have HL := Lib.hid (bl_length s)
  have HI := Lib.hid (show idB s = ((bl s).all hexc && s.size == 16) from rfl)
  go_enter Tryz.func29, Tryz.ntmps29
  go_wp2
  go_loop [3] (fun i => ∃ k : Nat, k ≤ s.size ∧ i = .int .i64 k ∧ Hid (((bl s).take k).all hexc = true)) (fun i => s.size - (intOf i).toNat)
  case atStart => exact ⟨0, Nat.zero_le _, rfl, Lib.hid rfl⟩
  case round =>
    obtain ⟨k, hk, rfl, HD⟩ := hrel
    by_cases hlt : k < s.size
    · have hk2 : k < (bl s).length := by rw [HL.out]; exact hlt
      obtain ⟨x, hx, hsx⟩ := byte_split s k hlt
      have hki : (k : Int) < (s.size : Int) := by omega
      cases hd : digitB x with
      | true =>
        have HF := Lib.hid (all_take_succ (p := hexc) (bl s) k hk2 HD.out (by rw [hx]; simp [hexc, hd]))
        clear hx HD
        go_wp2_with fail
        refine (refDigit_t x _ hd).mono ?_
        rintro e w1 ⟨rfl, rfl⟩
        clear hd
        go_wp2
        go_round
        case rel => exact ⟨k + 1, by omega, by go_num, HF⟩
        case measure => simp [intOf]; omega
      | false =>
        by_cases h6 : x.toNat < 97
        · have h7 : (x.toNat : Int) < 97 := by omega
          have HF := Lib.hid (all_fails (p := hexc) (bl s) k hk2 (by rw [hx]; simp [hexc, hd] <;> omega))
          clear hx HD
          go_wp2_with fail
          refine (refDigit_f x _ hd).mono ?_
          rintro e w1 ⟨rfl, rfl⟩
          clear hd
          go_wp2
          go_ret
          exact ⟨by rw [HI.out, HF.out]; rfl, rfl⟩
        · have h7 : ¬ (x.toNat : Int) < 97 := by omega
          by_cases h8 : x.toNat ≤ 102
          · have h9 : ¬ (102 : Int) < (x.toNat : Int) := by omega
            have HF := Lib.hid (all_take_succ (p := hexc) (bl s) k hk2 HD.out (by rw [hx]; simp [hexc, hd] <;> omega))
            clear hx HD
            go_wp2_with fail
            refine (refDigit_f x _ hd).mono ?_
            rintro e w1 ⟨rfl, rfl⟩
            clear hd
            go_wp2
            go_round
            case rel => exact ⟨k + 1, by omega, by go_num, HF⟩
            case measure => simp [intOf]; omega
          · have h9 : (102 : Int) < (x.toNat : Int) := by omega
            have HF := Lib.hid (all_fails (p := hexc) (bl s) k hk2 (by rw [hx]; simp [hexc, hd] <;> omega))
            clear hx HD
            go_wp2_with fail
            refine (refDigit_f x _ hd).mono ?_
            rintro e w1 ⟨rfl, rfl⟩
            clear hd
            go_wp2
            go_ret
            exact ⟨by rw [HI.out, HF.out]; rfl, rfl⟩
    · have HF := Lib.hid (all_full (bl s) k (by rw [HL.out]; omega) HD.out)
      have hkl : ¬ (k : Int) < (s.size : Int) := by omega
      by_cases h16 : s.size = 16
      · have hz : ((s.size : Int) == 16) = true := by rw [beq_iff_eq]; omega
        have HZ := Lib.hid (show idB s = true by rw [HI.out, HF.out, beq_iff_eq.2 h16]; rfl)
        clear h16
        go_wp2
        go_ret
        exact ⟨by rw [HZ.out]; rfl, rfl⟩
      · have hz : ((s.size : Int) == 16) = false := by rw [beq_eq_false_iff_ne]; omega
        have HZ := Lib.hid (show idB s = false by rw [HI.out, beq_eq_false_iff_ne.2 h16, Bool.and_false])
        clear h16
        go_wp2
        go_ret
        exact ⟨by rw [HZ.out]; rfl, rfl⟩

/-! ### Issue -/
def issueN : ByteArray := ⟨#[83, 101, 116, 45, 67, 111, 111, 107, 105, 101]⟩
def issueT (name id : ByteArray) : ByteArray := name ++ ⟨#[61]⟩ ++ id ++ ⟨#[59, 32, 80, 97, 116, 104, 61, 47, 59, 32, 72, 116, 116, 112, 79, 110, 108, 121]⟩
end Go.Proofs.YtfmokccoilgpmaaGreatDoor