/- SameFields, InFold, Without and With of package field and of its reference. -/
import Derived.Test.YthohdgjjlkeclaaDoorN06
import Derived.Deep.RegionHeld3
namespace Go.Proofs.YthohdgjjlkeclaaDoor
open Go.RowKit Go.Own
set_option linter.unusedVariables false
set_option maxHeartbeats 1000000

theorem sameF_calls (va vb : Value) (l : List Fld) (w : World) (Ha : RdF w va l) (Hb : RdF w vb l) :
    Calls Tryd.prog 16 #[va, vb] w fun e w' => e = .returned (.bool true) ∧ Below w.heap.size w w' := by
  obtain ⟨a, cap, rfl, hlc, hcm, -, hc⟩ := Ha
  obtain ⟨a2, cap2, rfl, hlc2, hcm2, -, hc2⟩ := Hb
  unfold maxLen at hcm hcm2
  go_enter Tryd.func16, Tryd.ntmps16
  go_wp2
  go_loopw [5] (fun i wr => ∃ k : Nat, k ≤ l.length ∧ i = .int .i64 k ∧ Below w.heap.size w wr) (fun i _ => l.length - (intOf i).toNat)
  case atStart => exact ⟨0, Nat.zero_le _, rfl, Below.refl _ _⟩
  case round =>
    obtain ⟨k, hk, rfl, hb⟩ := hrel
    by_cases hlt : k < l.length
    · obtain ⟨b, off, rfl, hcell, hcell'⟩ := (hc.below hb).fld k hlt
      obtain ⟨b2, off2, rfl, hcell2, hcell2'⟩ := (hc2.below hb).fld k hlt
      have hki : (k : Int) < (l.length : Int) := by omega
      clear hc hc2
      go_wp2
      go_quiet (fail)
      go_wp2
      go_roundw
      case rel => exact ⟨k + 1, by omega, by go_num, below_drewN hb _⟩
      case measure => simp [intOf]; omega
    · clear hc hc2
      go_wp2
      go_ret
      exact ⟨rfl, hb⟩

theorem foldB_comm (a b : ByteArray) : foldB a b = foldB b a := by
  unfold foldB
  rw [Bool.eq_iff_iff, seq_iff, seq_iff]
  exact ⟨Eq.symm, Eq.symm⟩

def inFold (l : List ByteArray) (s : ByteArray) : Bool := l.any fun x => foldB x s
theorem inFold_at (l : List ByteArray) (s : ByteArray) (k : Nat) (h : k < l.length) (he : foldB l[k] s = true) : inFold l s = true := List.any_eq_true.2 ⟨_, List.getElem_mem h, he⟩
theorem inFold_none (l : List ByteArray) (s : ByteArray) (h : ∀ k (h : k < l.length), foldB l[k] s = false) : inFold l s = false := by
  rw [inFold, List.any_eq_false]
  intro x hx
  obtain ⟨k, hk, rfl⟩ := List.getElem_of_mem hx
  rw [h k hk]; decide

theorem inFold_calls (va : Value) (l : List ByteArray) (s : ByteArray) (w : World) (Ha : RdS w va l) (hs : s.size ≤ maxLen) (hl : ∀ x ∈ l, x.size ≤ maxLen) :
    Calls Tryd.prog 56 #[va, .string s] w fun e w' => e = .returned (.bool (inFold l s)) ∧ Below w.heap.size w w' := by
  obtain ⟨a, cap, rfl, hlc, hcm, -, hc⟩ := Ha
  unfold maxLen at hcm
  go_enter Tryd.func56, Tryd.ntmps56
  go_wp2
  go_loopw [5] (fun i wr => ∃ k : Nat, k ≤ l.length ∧ i = .int .i64 k ∧ Below w.heap.size w wr ∧ Hid (∀ j (h : j < l.length), j < k → foldB l[j] s = false)) (fun i _ => l.length - (intOf i).toNat)
  case atStart => exact ⟨0, Nat.zero_le _, rfl, Below.refl _ _, Lib.hid fun j _ h => absurd h (Nat.not_lt_zero _)⟩
  case round =>
    obtain ⟨k, hk, rfl, hb, HD⟩ := hrel
    by_cases hlt : k < l.length
    · obtain ⟨b, off, rfl, hcell⟩ := (hc.below hb).str k hlt
      have hki : (k : Int) < (l.length : Int) := by omega
      have hx := hl l[k] (List.getElem_mem hlt)
      cases hf : foldB l[k] s with
      | true =>
        have HR := Lib.hid (inFold_at l s k hlt hf)
        go_wp2_with fail
        refine (refFold_calls _ _ _ hx hs).mono ?_
        rintro e w1 ⟨rfl, hb1⟩
        rw [hf]
        have HB := Below.self_trans hb hb1
        clear hcell
        go_wp2
        go_ret
        exact ⟨ret_bool HR.out.symm, HB⟩
      | false =>
        go_wp2_with fail
        refine (refFold_calls _ _ _ hx hs).mono ?_
        rintro e w1 ⟨rfl, hb1⟩
        rw [hf]
        have HB := Below.self_trans hb hb1
        clear hcell
        have HN := Lib.hid (show ∀ j (h : j < l.length), j < k + 1 → foldB l[j] s = false from fun j h hj => if e : j = k then by subst e; exact hf else HD.out j h (by omega))
        clear hf
        go_wp2
        go_roundw
        case rel => exact ⟨k + 1, by omega, by go_num, HB, HN⟩
        case measure => simp [intOf]; omega
    · have HR := Lib.hid (inFold_none l s fun j h => HD.out j h (by omega))
      clear hc
      go_wp2
      go_ret
      exact ⟨ret_bool HR.out.symm, hb⟩

def withoutS (l : List Fld) (names : List ByteArray) : List Fld := l.filter fun f => !inFold names f.name
theorem withoutS_take (l : List Fld) (names : List ByteArray) (k : Nat) (hk : k < l.length) : withoutS (l.take (k + 1)) names = withoutS (l.take k) names ++ (if inFold names l[k].name then [] else [l[k]]) := by
  rw [withoutS, withoutS, List.take_succ_eq_append_getElem hk, List.filter_append]
  congr 1
  cases h : inFold names l[k].name <;> simp [h]

theorem refWithout_calls (va vn : Value) (l : List Fld) (names : List ByteArray) (w : World) (Ha : RdF w va l) (Hn : RdS w vn names) (hl : l.length ≤ 100000000) (hn : ∀ x ∈ names, x.size ≤ maxLen) (hf : ∀ f ∈ l, f.name.size ≤ maxLen) :
    Calls Tryd.prog 36 #[va, vn] w fun e w' => (∃ v, e = .returned v ∧ OwnF w.heap.size w' v (withoutS l names)) ∧ Below w.heap.size w w' := by
  obtain ⟨a, cap, rfl, hlc, hcm, -, hc⟩ := Ha
  unfold maxLen at hcm
  go_enter Tryd.func36, Tryd.ntmps36
  go_wp2
  go_loopw [5, 6] (fun v i wr => ∃ (k : Nat) (done : List Fld), k ≤ l.length ∧ done.length ≤ k ∧ i = .int .i64 k ∧ OwnF w.heap.size wr v done ∧ Below w.heap.size w wr ∧ Hid (done = withoutS (l.take k) names)) (fun _ i _ => l.length - (intOf i).toNat)
  case atStart => exact ⟨0, [], Nat.zero_le _, Nat.le_refl _, rfl, World.ownsRow_nil _ _ _ _, Below.refl _ _, Lib.hid rfl⟩
  case round =>
    obtain ⟨k, done, hk, hdk, rfl, hown, hb, HD⟩ := hrel
    obtain ⟨a0, c0, rfl, hc1, hc2, hc3⟩ := owned_slice hown
    have hroom : (done.length + 1) * 32 ≤ 140737488355328 := by omega
    have hroom2 : done.length + 1 ≤ maxLen := by simp [maxLen]; omega
    clear hc1 hc2 hc3
    by_cases hlt : k < l.length
    · obtain ⟨b, off, rfl, hcell, hcell2⟩ := (hc.below hb).fld k hlt
      have hki : (k : Int) < (l.length : Int) := by omega
      have hfn := hf l[k] (List.getElem_mem hlt)
      have HN := Lib.hid (withoutS_take l names k hlt)
      cases hs : inFold names l[k].name with
      | false =>
        go_wp2_with fail
        refine (inFold_calls vn names _ _ (Hn.below hb) hfn hn).mono ?_
        rintro e w1 ⟨rfl, hb1⟩
        rw [hs]
        have HB := Below.self_trans hb hb1
        have hown1 := hown.below hb1
        obtain ⟨hcell3, hcell4⟩ := RdC.fldAt (hc.below HB) k hlt
        clear hb1 hb hown hcell hcell2
        go_wp2_with (at_builtin; refine wpList_append_one rfl (.tmp 21) (.tmp 26) 23 rfl w HB 41 (.agg #[.string .empty, .string .empty]) 2 32 Tryd.underlying23 info_fld rfl (by decide) a0 done.length c0 (fieldsV done) l[k].cells rfl (fld_one _) rfl hown1 rfl hroom hroom2 ?_; intro a1 c1 w3 hb3 hown3 hg3 _)
        go_roundw
        case rel => exact ⟨k + 1, done ++ [l[k]], by omega, by simp; omega, by go_num, OwnF.snoc hown3, hb3, Lib.hid (by rw [HD.out, HN.out, hs]; rfl)⟩
        case measure => simp [intOf]; omega
      | true =>
        go_wp2_with fail
        refine (inFold_calls vn names _ _ (Hn.below hb) hfn hn).mono ?_
        rintro e w1 ⟨rfl, hb1⟩
        rw [hs]
        have HB := Below.self_trans hb hb1
        have hown1 := hown.below hb1
        clear hb1 hb hown hcell hcell2
        go_wp2
        go_roundw
        case rel => exact ⟨k + 1, done, by omega, by omega, by go_num, hown1, HB, Lib.hid (by rw [HD.out, HN.out, hs]; simp)⟩
        case measure => simp [intOf]; omega
    · clear hc
      have hkl : k = l.length := by omega
      have hd : done = withoutS l names := by rw [HD.out, hkl, List.take_length]
      clear HD hkl
      subst hd
      go_wp2
      go_ret
      exact ⟨⟨_, rfl, hown⟩, hb⟩

def anyIs (f : ByteArray) (l : List ByteArray) : Bool := l.any fun x => seq f (lowerB x)
theorem anyIs_fold (n : ByteArray) (l : List ByteArray) : anyIs (lowerB n) l = inFold l n := by
  unfold anyIs inFold
  congr 1
  funext x
  exact foldB_comm n x
theorem anyIs_at (f : ByteArray) (l : List ByteArray) (k : Nat) (h : k < l.length) (he : seq f (lowerB l[k]) = true) : anyIs f l = true := List.any_eq_true.2 ⟨_, List.getElem_mem h, he⟩
theorem anyIs_none (f : ByteArray) (l : List ByteArray) (h : ∀ k (h : k < l.length), seq f (lowerB l[k]) = false) : anyIs f l = false := by
  rw [anyIs, List.any_eq_false]
  intro x hx
  obtain ⟨k, hk, rfl⟩ := List.getElem_of_mem hx
  rw [h k hk]; decide

theorem indexFunc_calls (n v f : ByteArray) (vn : Value) (l : List ByteArray) (w : World) (Hn : RdS w vn l) (hl : ∀ x ∈ l, x.size ≤ maxLen) :
    Calls Tryd.prog 63 #[vn, .func (.func 48) #[.agg #[.string n, .string v, .string f]] #[]] w fun e w' => (∃ r : Int, e = .returned (.int .i64 r) ∧ decide (0 ≤ r) = anyIs f l) ∧ Below w.heap.size w w' := by
  obtain ⟨a, cap, rfl, hlc, hcm, -, hc⟩ := Hn
  unfold maxLen at hcm
  go_enter Tryd.func63, Tryd.ntmps63
  go_wp2
  go_loopw [8] (fun i wr => ∃ k : Nat, k ≤ l.length ∧ i = .int .i64 k ∧ Below w.heap.size w wr ∧ Hid (∀ j (h : j < l.length), j < k → seq f (lowerB l[j]) = false)) (fun i _ => l.length - (intOf i).toNat)
  case atStart => exact ⟨0, Nat.zero_le _, rfl, Below.refl _ _, Lib.hid fun j _ h => absurd h (Nat.not_lt_zero _)⟩
  case round =>
    obtain ⟨k, hk, rfl, hb, HD⟩ := hrel
    by_cases hlt : k < l.length
    · obtain ⟨b, off, rfl, hcell⟩ := (hc.below hb).str k hlt
      have hki : (k : Int) < (l.length : Int) := by omega
      have hx := hl l[k] (List.getElem_mem hlt)
      cases hf : seq f (lowerB l[k]) with
      | true =>
        have HR := Lib.hid (anyIs_at f l k hlt hf)
        go_wp2_with fail
        refine (is_calls n v f _ _ hx).mono ?_
        rintro e w1 ⟨rfl, hb1⟩
        rw [hf]
        have HB := Below.self_trans hb hb1
        clear hcell
        go_wp2
        go_ret
        exact ⟨⟨_, rfl, by rw [HR.out]; exact decide_eq_true (by omega)⟩, HB⟩
      | false =>
        go_wp2_with fail
        refine (is_calls n v f _ _ hx).mono ?_
        rintro e w1 ⟨rfl, hb1⟩
        rw [hf]
        have HB := Below.self_trans hb hb1
        clear hcell
        have HN := Lib.hid (show ∀ j (h : j < l.length), j < k + 1 → seq f (lowerB l[j]) = false from fun j h hj => if e : j = k then by subst e; exact hf else HD.out j h (by omega))
        clear hf
        go_wp2
        go_roundw
        case rel => exact ⟨k + 1, by omega, by go_num, HB, HN⟩
        case measure => simp [intOf]; omega
    · have HR := Lib.hid (anyIs_none f l fun j h => HD.out j h (by omega))
      clear hc
      go_wp2
      go_ret
      exact ⟨⟨_, rfl, by rw [HR.out]; rfl⟩, hb⟩

theorem containsFunc_calls (n v f : ByteArray) (vn : Value) (l : List ByteArray) (w : World) (Hn : RdS w vn l) (hl : ∀ x ∈ l, x.size ≤ maxLen) :
    Calls Tryd.prog 47 #[vn, .func (.func 48) #[.agg #[.string n, .string v, .string f]] #[]] w fun e w' => e = .returned (.bool (anyIs f l)) ∧ Below w.heap.size w w' := by
  go_enter Tryd.func47, Tryd.ntmps47
  go_wp2_with fail
  refine (indexFunc_calls n v f vn l _ Hn hl).mono ?_
  rintro e w1 ⟨⟨r, rfl, hr⟩, hb⟩
  have HR := Lib.hid hr
  clear hr
  go_wp2
  go_ret
  exact ⟨ret_bool HR.out, hb⟩

theorem without_calls (va vn : Value) (l : List Fld) (names : List ByteArray) (w : World) (Ha : RdF w va l) (Hn : RdS w vn names) (hl : l.length ≤ 100000000) (hn : ∀ x ∈ names, x.size ≤ maxLen) (hf : ∀ f ∈ l, f.name.size ≤ maxLen) :
    Calls Tryd.prog 31 #[va, vn] w fun e w' => (∃ v, e = .returned v ∧ OwnF w.heap.size w' v (withoutS l names)) ∧ Below w.heap.size w w' := by
  obtain ⟨a, cap, rfl, hlc, hcm, -, hc⟩ := Ha
  unfold maxLen at hcm
  go_enter Tryd.func31, Tryd.ntmps31
  go_wp2
  go_loopw [5, 11] (fun v i wr => ∃ (k : Nat) (done : List Fld), k ≤ l.length ∧ done.length ≤ k ∧ i = .int .i64 k ∧ OwnF w.heap.size wr v done ∧ Below w.heap.size w wr ∧ Hid (done = withoutS (l.take k) names)) (fun _ i _ => l.length - (intOf i).toNat)
  case atStart => exact ⟨0, [], Nat.zero_le _, Nat.le_refl _, rfl, World.ownsRow_nil _ _ _ _, Below.refl _ _, Lib.hid rfl⟩
  case round =>
    obtain ⟨k, done, hk, hdk, rfl, hown, hb, HD⟩ := hrel
    obtain ⟨a0, c0, rfl, hc1, hc2, hc3⟩ := owned_slice hown
    have hroom : (done.length + 1) * 32 ≤ 140737488355328 := by omega
    have hroom2 : done.length + 1 ≤ maxLen := by simp [maxLen]; omega
    clear hc1 hc2 hc3
    by_cases hlt : k < l.length
    · obtain ⟨b, off, rfl, hcell, hcell2⟩ := (hc.below hb).fld k hlt
      have hki : (k : Int) < (l.length : Int) := by omega
      have hfn := hf l[k] (List.getElem_mem hlt)
      have HN := Lib.hid (withoutS_take l names k hlt)
      have Hnr := Hn.below hb
      cases hs : inFold names l[k].name with
      | false =>
        go_wp2_with fail
        refine (fof_calls _ _ _ hfn).mono ?_
        rintro e w1 ⟨rfl, hb1⟩
        have hbw := kept_below hb1
        have HB := Below.self_trans hb hbw
        have hown1 := hown.below hbw
        have Hn1 := Hnr.below hbw
        clear hb1 hbw hb hown Hnr
        go_wp2_with fail
        refine (containsFunc_calls _ _ _ vn names _ (Hn1.below ((Below.refl _ _).alloc (Nat.le_refl _) _)) hn).mono ?_
        rintro e w2 ⟨rfl, hb2⟩
        rw [anyIs_fold, hs]
        have k0 := (keptN hb2 0).1
        have k1 := (keptN hb2 1).1
        have k2 := (keptN hb2 2).1
        have hbw := kept_below hb2
        have HB2 := Below.self_trans HB hbw
        have hown2 := hown1.below hbw
        have hlt2 := kept_lt hb2
        clear hb2 hbw HB hown1 Hn1
        go_wp2_with (at_builtin; refine wpList_append_one rfl (.tmp 22) (.tmp 25) 23 rfl w HB2 41 (.agg #[.string .empty, .string .empty]) 2 32 Tryd.underlying23 info_fld rfl (by decide) a0 done.length c0 (fieldsV done) l[k].cells rfl (fld_one _) rfl hown2 rfl hroom hroom2 ?_; intro a1 c1 w3 hb3 hown3 hg3 _)
        go_roundw
        case rel => exact ⟨k + 1, done ++ [l[k]], by omega, by simp; omega, by go_num, OwnF.snoc hown3, hb3, Lib.hid (by rw [HD.out, HN.out, hs]; rfl)⟩
        case measure => simp [intOf]; omega
      | true =>
        go_wp2_with fail
        refine (fof_calls _ _ _ hfn).mono ?_
        rintro e w1 ⟨rfl, hb1⟩
        have hbw := kept_below hb1
        have HB := Below.self_trans hb hbw
        have hown1 := hown.below hbw
        have Hn1 := Hnr.below hbw
        clear hb1 hbw hb hown Hnr
        go_wp2_with fail
        refine (containsFunc_calls _ _ _ vn names _ (Hn1.below ((Below.refl _ _).alloc (Nat.le_refl _) _)) hn).mono ?_
        rintro e w2 ⟨rfl, hb2⟩
        rw [anyIs_fold, hs]
        have k0 := (keptN hb2 0).1
        have k1 := (keptN hb2 1).1
        have k2 := (keptN hb2 2).1
        have hbw := kept_below hb2
        have HB2 := Below.self_trans HB hbw
        have hown2 := hown1.below hbw
        have hlt2 := kept_lt hb2
        clear hb2 hbw HB hown1 Hn1
        go_wp2
        go_roundw
        case rel => exact ⟨k + 1, done, by omega, by omega, by go_num, hown2, HB2, Lib.hid (by rw [HD.out, HN.out, hs]; simp)⟩
        case measure => simp [intOf]; omega
    · clear hc
      have hkl : k = l.length := by omega
      have hd : done = withoutS l names := by rw [HD.out, hkl, List.take_length]
      clear HD hkl
      subst hd
      go_wp2
      go_ret
      exact ⟨⟨_, rfl, hown⟩, hb⟩
end Go.Proofs.YthohdgjjlkeclaaDoor
