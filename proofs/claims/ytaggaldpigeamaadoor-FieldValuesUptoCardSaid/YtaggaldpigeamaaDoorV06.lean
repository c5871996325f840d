/- The reference's Values and Has; Elements of both; FieldValues' core. -/
import Derived.Test.YtaggaldpigeamaaDoorN06
import Derived.Test.YtaggaldpigeamaaDoorL01
import Derived.Deep.RegionHeld3
namespace Go.Proofs.YtaggaldpigeamaaDoor
open Go.RowKit Go.Own
set_option linter.unusedVariables false
set_option maxHeartbeats 1000000

theorem refValues_calls (va : Value) (l : List Fld) (name : ByteArray) (w : World) (Ha : RdF w va l) (hl : l.length ≤ 1000000) (hn : name.size ≤ maxLen) (hf : ∀ f ∈ l, f.name.size ≤ maxLen) :
    Calls Tryd.prog 28 #[va, .string name] w fun e w' => (∃ v, e = .returned v ∧ OwnS w.heap.size w' v (valuesS l name)) ∧ Below w.heap.size w w' := by
  obtain ⟨a, cap, rfl, hlc, hcm, -, hc⟩ := Ha
  unfold maxLen at hcm
  go_enter Tryd.func28, Tryd.ntmps28
  go_wp2
  go_loopw [5, 6] (fun v i wr => ∃ (k : Nat) (done : List ByteArray), k ≤ l.length ∧ done.length ≤ k ∧ i = .int .i64 k ∧ OwnS w.heap.size wr v done ∧ Below w.heap.size w wr ∧ Hid (done = valuesS (l.take k) name)) (fun _ i _ => l.length - (intOf i).toNat)
  case atStart => exact ⟨0, [], Nat.zero_le _, Nat.le_refl _, rfl, World.ownsRow_nil _ _ _ _, Below.refl _ _, Lib.hid rfl⟩
  case round =>
    obtain ⟨k, done, hk, hdk, rfl, hown, hb, HD⟩ := hrel
    obtain ⟨a0, c0, rfl, hc1, hc2, hc3⟩ := owned_slice hown
    have hroom : (done.length + 1) * 16 ≤ 140737488355328 := by omega
    have hroom2 : done.length + 1 ≤ maxLen := by simp [maxLen]; omega
    clear hc1 hc2 hc3
    by_cases hlt : k < l.length
    · obtain ⟨b, off, rfl, hcell, hcell2⟩ := (hc.below hb).fld k hlt
      have hki : (k : Int) < (l.length : Int) := by omega
      have hfn := hf l[k] (List.getElem_mem hlt)
      have HN := Lib.hid (valuesS_take l name k hlt)
      cases hs : foldB l[k].name name with
      | true =>
        go_wp2_with fail
        refine (refFold_calls _ _ _ hfn hn).mono ?_
        rintro e w1 ⟨rfl, hb1⟩
        rw [hs]
        have HB := Below.self_trans hb hb1
        have hown1 := hown.below hb1
        obtain ⟨b2, off2, hb2, hcell3, hcell4⟩ := (hc.below HB).fld k hlt
        injection hb2 with hb2
        injection hb2 with hb3 hb4
        subst hb3 hb4
        clear hb1 hb hown hcell hcell2
        go_wp2_with (at_builtin; refine wpList_append_one rfl (.tmp 20) (.tmp 26) 30 rfl w HB 9 (.string .empty) 1 16 Tryd.underlying30 info_str rfl Nat.one_pos a0 done.length c0 (strsV done) [.string l[k].val] rfl (one_cell_str _) rfl hown1 rfl hroom hroom2 ?_; intro a1 c1 w3 hb3 hown3 hg3 _)
        go_roundw
        case rel => exact ⟨k + 1, done ++ [l[k].val], by omega, by simp; omega, by go_num, OwnS.snoc hown3, hb3, Lib.hid (by rw [HD.out, HN.out, hs]; rfl)⟩
        case measure => simp [intOf]; omega
      | false =>
        go_wp2_with fail
        refine (refFold_calls _ _ _ hfn hn).mono ?_
        rintro e w1 ⟨rfl, hb1⟩
        rw [hs]
        have HB := Below.self_trans hb hb1
        have hown1 := hown.below hb1
        clear hb1 hb hown hcell hcell2
        go_wp2
        go_roundw
        case rel => exact ⟨k + 1, done, by omega, by omega, by go_num, hown1, HB, Lib.hid (by rw [HD.out, HN.out, hs]; simp)⟩
        case measure => simp [intOf]; omega
    · clear hc
      have hkl : k = l.length := by omega
      have hd : done = valuesS l name := by rw [HD.out, hkl, List.take_length]
      clear HD hkl
      subst hd
      go_wp2
      go_ret
      exact ⟨⟨_, rfl, hown⟩, hb⟩

theorem own_base {w : World} {B B' : Nat} {v : Value} {l : List ByteArray} (h : OwnS B w v l) (hB : B' ≤ B) : OwnS B' w v l := by
  obtain ⟨h1, h2⟩ := h
  refine ⟨h1, ?_⟩
  rcases h2 with h2 | ⟨g, cap, cur, q1, q2, q3⟩
  · exact Or.inl h2
  · exact Or.inr ⟨g, cap, cur, q1, Nat.le_trans hB q2, q3⟩

theorem refHasF_calls (va : Value) (l : List Fld) (name : ByteArray) (w : World) (Ha : RdF w va l) (hl : l.length ≤ 1000000) (hn : name.size ≤ maxLen) (hf : ∀ f ∈ l, f.name.size ≤ maxLen) :
    Calls Tryd.prog 30 #[va, .string name] w fun e w' => e = .returned (.bool (hasF l name)) ∧ Below w.heap.size w w' := by
  go_enter Tryd.func30, Tryd.ntmps30
  go_wp2_with fail
  refine (refValues_calls va l name _ Ha hl hn hf).mono ?_
  rintro e w1 ⟨⟨v, rfl, hown⟩, hb⟩
  obtain ⟨a0, c0, rfl, -, -, -⟩ := owned_slice hown
  have HH := Lib.hid (hasF_pos (l := l) (name := name))
  clear hown
  go_wp2
  go_ret
  exact ⟨ret_bool HH.out, hb⟩

theorem valuesS_sum (l : List Fld) (name : ByteArray) : ((valuesS l name).map fun s => s.size + 1).sum ≤ fsize l := by
  induction l with
  | nil => exact Nat.le_refl _
  | cons f l ih =>
    unfold valuesS fsize at ih ⊢
    rw [List.filter_cons, List.map_cons, List.sum_cons]
    cases h : foldB f.name name
    · simp only [Bool.false_eq_true, if_false]; omega
    · simp only [if_true, List.map_cons, List.sum_cons]; omega
theorem valuesS_mem {l : List Fld} {name s : ByteArray} (h : s ∈ valuesS l name) : s.size ≤ fsize l := by
  obtain ⟨f, hf, rfl⟩ := List.mem_map.1 h
  have := fsize_mem (List.mem_filter.1 hf).1
  omega

theorem elements_calls (va : Value) (l : List Fld) (name : ByteArray) (w : World) (hE : Env w) (Ha : RdF w va l) (hl : fsize l ≤ 2000000) (hn : name.size ≤ maxLen) :
    Calls Tryd.prog 31 #[va, .string name] w fun e w' => (∃ v, e = .returned v ∧ OwnS w.heap.size w' v (elemsS (valuesS l name))) ∧ Below w.heap.size w w' := by
  have hlen := fsize_length l
  have hf : ∀ f ∈ l, f.name.size ≤ maxLen := fun f hf => by have := fsize_mem hf; simp [maxLen]; omega
  have hz : ∀ s ∈ valuesS l name, s.size < 4294967281 := fun s hs => by have := valuesS_mem hs; omega
  have hN : (elemsS (valuesS l name)).length ≤ 4294967296 := by have := elemsS_length (valuesS l name); have := valuesS_sum l name; omega
  go_enter Tryd.func31, Tryd.ntmps31
  go_wp2_with fail
  refine (values_calls va l name _ Ha (by omega) hn hf).mono ?_
  rintro e w1 ⟨⟨v, rfl, hown⟩, hb⟩
  have hr := hown.rd
  clear hown
  go_wp2_with fail
  refine (list_calls v _ _ (hE.below hb) hr hz hN).mono ?_
  rintro e w2 ⟨⟨v2, rfl, hown2⟩, hb2⟩
  go_wp2
  go_ret
  exact ⟨⟨v2, rfl, own_base hown2 hb.size⟩, Below.self_trans hb hb2⟩

theorem refElements_calls (va : Value) (l : List Fld) (name : ByteArray) (w : World) (Ha : RdF w va l) (hl : fsize l ≤ 2000000) (hn : name.size ≤ maxLen) :
    Calls Tryd.prog 32 #[va, .string name] w fun e w' => (∃ v, e = .returned v ∧ OwnS w.heap.size w' v (elemsS (valuesS l name))) ∧ Below w.heap.size w w' := by
  have hlen := fsize_length l
  have hf : ∀ f ∈ l, f.name.size ≤ maxLen := fun f hf => by have := fsize_mem hf; simp [maxLen]; omega
  have hz : ∀ s ∈ valuesS l name, s.size < 4294967281 := fun s hs => by have := valuesS_mem hs; omega
  have hN : (elemsS (valuesS l name)).length ≤ 4294967296 := by have := elemsS_length (valuesS l name); have := valuesS_sum l name; omega
  go_enter Tryd.func32, Tryd.ntmps32
  go_wp2_with fail
  refine (refValues_calls va l name _ Ha (by omega) hn hf).mono ?_
  rintro e w1 ⟨⟨v, rfl, hown⟩, hb⟩
  have hr := hown.rd
  clear hown
  go_wp2_with fail
  refine (refList_calls v _ _ hr hz hN).mono ?_
  rintro e w2 ⟨⟨v2, rfl, hown2⟩, hb2⟩
  go_wp2
  go_ret
  exact ⟨⟨v2, rfl, own_base hown2 hb.size⟩, Below.self_trans hb hb2⟩

theorem fieldValues_core (vr : Value) (raw : List Fld) (vl : Value) (l : List Int) (s : ByteArray) (at0 : Int) (wild : Bool) (w : World) (hE : Env w) (Hr : RdF w vr raw) (Hl : RdI w vl l) (hM : fsize raw ≤ 1048576) (hs : s.size ≤ 1048576) (hat : In64 at0) :
    Calls Tryd.prog 8 #[vr, vl, .string s, .int .i64 at0, .bool wild] w fun e w' => e = .returned (.bool true) ∧ Below w.heap.size w w' := by
  go_enter Tryd.func8, Tryd.ntmps8
  go_wp2_with fail
  refine (lawFields_calls vr raw vl l wild 1048576 _ Hr Hl hM (by omega)).mono ?_
  rintro e w1 ⟨⟨vx, x, rfl, Hx, hx30, hxs⟩, hb1⟩
  clear Hr Hl hM
  go_wp2_with fail
  refine (lawName_calls vx x s at0 1048576 _ Hx hx30 hxs hs (by simp [maxLen]) hat).mono ?_
  rintro e w2 ⟨⟨n, rfl, hn⟩, hb2⟩
  have HB2 := Below.self_trans hb1 hb2
  have Hx2 := Hx.below hb2
  have hn2 : n.size ≤ maxLen := Nat.le_trans hn (by simp [maxLen])
  have hf : ∀ f ∈ x, f.name.size ≤ maxLen ∧ f.val.size ≤ maxLen := fun f hf => by have := fsize_mem hf; constructor <;> (simp [maxLen]; omega)
  have hf1 : ∀ f ∈ x, f.name.size ≤ maxLen := fun f h => (hf f h).1
  obtain ⟨a, cap, hva, hlc, hcm, hcn, hc⟩ := Hx2
  subst hva
  clear Hx hb1 hb2 hs hn
  go_wp2
  go_loopw [13] (fun i wr => ∃ k : Nat, k ≤ x.length ∧ i = .int .i64 k ∧ Below w.heap.size w wr ∧ Below w2.heap.size w2 wr) (fun i _ => x.length - (intOf i).toNat)
  case atStart => exact ⟨0, Nat.zero_le _, rfl, HB2, Below.refl _ _⟩
  case round =>
    obtain ⟨k, hk, rfl, hb, hbx⟩ := hrel
    by_cases hlt : k < x.length
    · obtain ⟨b, off, rfl, hcell, hcell2⟩ := (hc.below hbx).fld k hlt
      have hki : (k : Int) < (x.length : Int) := by omega
      obtain ⟨hf3, hf4⟩ := hf x[k] (List.getElem_mem hlt)
      have hcw := hc
      go_wp2_with fail
      go_region_held3 (fun w' => w'.cell? ⟨b, off + k * 2, none⟩ = some (.string x[k].name) ∧ w'.cell? ⟨b, off + k * 2 + 1, none⟩ = some (.string x[k].val)) (first | exact ⟨hcell, hcell2⟩ | exact hc3 | exact hc4) (first
        | (go_at_call 25; refine (valid_calls x[k] _ hf3 hf4).mono ?_; rintro e w3 ⟨rfl, hb3⟩; have hb3' : Below wr.heap.size wr w3 := ⟨hb3.os, hb3.tape, hb3.output, hb3.size, hb3.block⟩; have HB3 := Below.self_trans hb hb3'; have HBX3 := Below.self_trans hbx hb3'; have hc3 := RdC.fldAt (hcw.below HBX3) k hlt)
        | (go_at_call 26; refine (refValid_calls x[k] _ hf3 hf4).mono ?_; rintro e w4 ⟨rfl, hb4⟩; have hb4' : Below w3.heap.size w3 w4 := ⟨hb4.os, hb4.tape, hb4.output, hb4.size, hb4.block⟩; have HB4 := Below.self_trans HB3 hb4'; have HBX4 := Below.self_trans HBX3 hb4'; have hc4 := RdC.fldAt (hcw.below HBX4) k hlt))
      all_goals
        go_wp2
        go_roundw
        case rel => exact ⟨k + 1, by omega, by go_num, HB4, HBX4⟩
        case measure => simp [intOf]; omega
    · have hxl : x.length ≤ 1000000 := by omega
      have Hx : RdF wr (.slice a x.length cap) x := ⟨a, cap, rfl, hlc, hcm, hcn, hc.below hbx⟩
      clear hc hbx
      have hxs2 : fsize x ≤ 2000000 := by omega
      go_wp2_with fail
      refine (values_calls _ x n _ Hx hxl hn2 hf1).mono ?_
      rintro e w3 ⟨⟨v3, rfl, ho3⟩, hb3⟩
      have HB3 := Below.self_trans hb hb3
      have Hx3 := Hx.below hb3
      have hr3 := ho3.rd
      clear hb hb3 ho3 Hx
      go_wp2_with fail
      refine (refValues_calls _ x n _ Hx3 hxl hn2 hf1).mono ?_
      rintro e w4 ⟨⟨v4, rfl, ho4⟩, hb4⟩
      have HB4 := Below.self_trans HB3 hb4
      have Hx4 := Hx3.below hb4
      have hr4 := ho4.rd
      have hr34 := hr3.below hb4
      clear hb4 ho4 Hx3 HB3 hr3
      go_wp2_with fail
      refine (same_calls v3 v4 _ _ hr34 hr4).mono ?_
      rintro e w5 ⟨rfl, hb5⟩
      have HB5 := Below.self_trans HB4 hb5
      have Hx5 := Hx4.below hb5
      clear hr34 hr4 hb5 Hx4 HB4
      go_wp2_with fail
      refine (has_calls _ x n _ Hx5 hxl hn2 hf1).mono ?_
      rintro e w6 ⟨rfl, hb6⟩
      have HB6 := Below.self_trans HB5 hb6
      have Hx6 := Hx5.below hb6
      clear hb6 Hx5 HB5
      go_wp2_with fail
      refine (refHasF_calls _ x n _ Hx6 hxl hn2 hf1).mono ?_
      rintro e w7 ⟨rfl, hb7⟩
      have HB7 := Below.self_trans HB6 hb7
      have Hx7 := Hx6.below hb7
      clear hb7 Hx6 HB6
      go_wp2_with fail
      refine (elements_calls _ x n _ (hE.below HB7) Hx7 hxs2 hn2).mono ?_
      rintro e w8 ⟨⟨v8, rfl, ho8⟩, hb8⟩
      have HB8 := Below.self_trans HB7 hb8
      have Hx8 := Hx7.below hb8
      have hr8 := ho8.rd
      clear hb8 ho8 Hx7 HB7
      go_wp2_with fail
      refine (refElements_calls _ x n _ Hx8 hxs2 hn2).mono ?_
      rintro e w9 ⟨⟨v9, rfl, ho9⟩, hb9⟩
      have HB9 := Below.self_trans HB8 hb9
      have hr9 := ho9.rd
      have hr89 := hr8.below hb9
      clear hb9 ho9 Hx8 HB8 hr8
      go_wp2_with fail
      refine (same_calls v8 v9 _ _ hr89 hr9).mono ?_
      rintro e w10 ⟨rfl, hb10⟩
      have HB10 := Below.self_trans HB9 hb10
      clear hr89 hr9 hb10 HB9
      go_wp2_with fail
      refine (awake06_calls _ (hE.below HB10)).mono ?_
      rintro e w11 ⟨rfl, hb11⟩
      have HB11 := Below.self_trans HB10 hb11
      go_wp2
      go_ret
      exact ⟨rfl, HB11⟩
end Go.Proofs.YtaggaldpigeamaaDoor
