/- strings.Builder's WriteString and String; field.Format and its reference. -/
import Derived.Test.YtglljdhhgmgbgaaDoorN06
import Derived.Test.YtglljdhhgmgbgaaDoorPA
import Derived.Test.YtglljdhhgmgbgaaDoorShelf
import Derived.Lib.Builder
import Derived.Lib.AppendStr
import Derived.Lib.UnsafeStr
import Derived.Laws.Externs
namespace Go.Proofs.YtglljdhhgmgbgaaDoor
open Go.RowKit Go.Own
set_option linter.unusedVariables false
set_option maxHeartbeats 1000000

theorem builder_info : (Tryd.prog.info? 73).map (·.size) = some 2 := by kernel_rfl
theorem builder_lies : liesAt Tryd.prog Tryd.prog.depth 73 (2 / Tryd.prog.cellsOf 73) 0 73 1 = true := by kernel_rfl
def Bld (B b : Nat) (l : List UInt8) (w : World) : Prop := Lib.IsBuilder 73 5 B b (bytesV l) w
theorem Bld.fresh (w : World) : Bld w.heap.size w.heap.size [] (w.alloc (.cells #[.pointer none, .slice none 0 0] 73)) := Lib.fresh_isBuilder _ _ w

set_option maxRecDepth 100000 in
theorem copyCheck_used (b : Nat) (w : World) (h0 : w.cell? ⟨b, 0, none⟩ = some (.pointer (some ⟨b, 0, none⟩))) :
    Calls Tryd.prog 64 #[.pointer (some ⟨b, 0, none⟩)] w fun e w' => e = .returned (.tuple #[]) ∧ w' = w := by
  obtain ⟨j, hj, -⟩ := Option.map_eq_some_iff.1 builder_info
  go_enter Tryd.func64, Tryd.ntmps64
  go_wp2
  rw [Lib.run_neq_ptr_same w _ Tryd.underlying71 hj]
  go_wp2
  go_end0
  exact ⟨rfl, rfl⟩

set_option maxRecDepth 100000 in
theorem copyCheck_fresh (b : Nat) (w : World) (h0 : w.cell? ⟨b, 0, none⟩ = some (.pointer none)) (hsh : w.shape? b = some (73, 2)) (hfz : w.frozen? ⟨b, 0, none⟩ = false) :
    Calls Tryd.prog 64 #[.pointer (some ⟨b, 0, none⟩)] w fun e w' => e = .returned (.tuple #[]) ∧ w' = w.setCell ⟨b, 0, none⟩ (.pointer (some ⟨b, 0, none⟩)) := by
  obtain ⟨j, hj, hjs⟩ := Option.map_eq_some_iff.1 builder_info
  go_enter Tryd.func64, Tryd.ntmps64
  go_wp2
  rw [Lib.run_to_unsafe w ⟨b, 0, none⟩ Tryd.underlying71 Tryd.underlying100 hj (by rw [hjs]; decide) hsh (Nat.zero_lt_succ 1)]
  simp only [Result.andThen]
  rw [Oper.upon_value]
  go_wp2
  rw [run_callFunc_extern Tryd.func74 (by kernel_rfl) (by kernel_rfl) (by kernel_rfl) (e := Extern.AbiNoEscape.same) (by kernel_rfl)]
  rw [Lib.run_noEscape]
  simp only [Result.andThen]
  rw [Oper.upon_value]
  go_wp2
  rw [Lib.run_from_unsafe w ⟨b, 0, none⟩ Tryd.underlying100 Tryd.underlying71 hj hsh builder_lies]
  simp only [Result.andThen]
  rw [Oper.upon_value]
  go_wp2
  go_end0
  exact ⟨rfl, rfl⟩

theorem copyCheck_calls (B b : Nat) (l : List UInt8) (w : World) (h : Bld B b l w) :
    Calls Tryd.prog 64 #[.pointer (some ⟨b, 0, none⟩)] w fun e w' => e = .returned (.tuple #[]) ∧ Lib.BuilderAt 73 5 B b (.pointer (some ⟨b, 0, none⟩)) (bytesV l) w' ∧ Below B w w' := by
  rcases h with h | h
  · refine (copyCheck_fresh b w h.cell0 h.shape h.frozen0).mono ?_
    rintro e w' ⟨rfl, rfl⟩
    exact ⟨rfl, h.used _, (Below.refl B w).setCell (p := ⟨b, 0, none⟩) h.1 _⟩
  · refine (copyCheck_used b w h.cell0).mono ?_
    rintro e w' ⟨rfl, rfl⟩
    exact ⟨rfl, h, Below.refl B _⟩

theorem strCells_bytesV (s : ByteArray) : Lib.strCells s = bytesV (bl s) := rfl
theorem byteCells_bytesV (l : List UInt8) : Lib.byteCells l = bytesV l := rfl
theorem builder_ne : 73 ≠ 5 := by decide

theorem writeString_calls (B b : Nat) (l : List UInt8) (s : ByteArray) (w : World) (h : Bld B b l w) (hl : l.length + s.size ≤ 1000000000) (hBw : B ≤ w.heap.size) :
    Calls Tryd.prog 42 #[.pointer (some ⟨b, 0, none⟩), .string s] w fun e w' => e = .returned (.tuple #[.int .i64 s.size, .nilIface]) ∧ Bld B b (l ++ bl s) w' ∧ Below B w w' := by
  obtain ⟨i0, hi, hz0, hz1, hz2⟩ := info_parts info_u8
  have hlen := bytesV_length l
  go_enter Tryd.func42, Tryd.ntmps42
  go_wp2_with fail
  refine (copyCheck_calls B b l _ h).mono ?_
  rintro e w1 ⟨rfl, h1, hb1⟩
  obtain ⟨hB, v, hbk, hown, hne⟩ := h1
  have c0 : w1.cell? ⟨b, 0, none⟩ = some (.pointer (some ⟨b, 0, none⟩)) := by rw [Lib.cell_of_heap hbk]; rfl
  have c1 : w1.cell? ⟨b, 1, none⟩ = some v := by rw [Lib.cell_of_heap hbk]; rfl
  go_wp2_with (at_builtin; refine Lib.wpList_append_own_string _ rfl _ _ 26 9 rfl B 5 i0 Tryd.underlying26 Tryd.underlying9 hi hz0 hz1 hz2 _ _ _ rfl hown s rfl ?c3 ?c4 ?c5 ?_)
  case c3 => unfold maxLen; omega
  case c4 => omega
  case c5 => have := hb1.size; omega
  intro v' w2 hown' hgrow _
  have hlt : b < w1.heap.size := by
    rcases Nat.lt_or_ge b w1.heap.size with h' | h'
    · exact h'
    · simp [Array.getElem?_eq_none h'] at hbk
  have hb2 : w2.heap[b]? = some (.cells #[.pointer (some ⟨b, 0, none⟩), v] 73 (0, 0)) := by
    rw [hgrow.block b hlt (fun e => hne e.symm)]
    exact hbk
  have d0 : w2.cell? ⟨b, 0, none⟩ = some (.pointer (some ⟨b, 0, none⟩)) := by rw [Lib.cell_of_heap hb2]; rfl
  have d1 : w2.cell? ⟨b, 1, none⟩ = some v := by rw [Lib.cell_of_heap hb2]; rfl
  have f1 : w2.frozen? ⟨b, 1, none⟩ = false := Lib.frozen_of_heap hb2 1
  obtain ⟨ao, n', cap, rfl⟩ : ∃ ao n' cap, v' = .slice ao n' cap := by
    rcases hown'.2 with ⟨hv, _⟩ | ⟨g, cap, cur, hv, _⟩
    · exact ⟨_, _, _, hv⟩
    · exact ⟨_, _, _, hv⟩
  have hput := Lib.BuilderAt.put (T := 73) (e := 5) hB hb2 (bs' := bytesV l ++ Lib.strCells s) (by simpa [Lib.strCells_length, bytesV_length] using hown') builder_ne
  have hbel := (hb1.grown hgrow (by have := hb1.size; omega) (fun k hk => (hown.lt k hk).1)).setCell (p := ⟨b, 1, none⟩) hB (.slice ao n' cap)
  have e2 : bytesV l ++ Lib.strCells s = bytesV (l ++ bl s) := by rw [strCells_bytesV, bytesV, bytesV, bytesV, List.map_append]
  rw [e2] at hput
  have HP := Lib.hid hput
  have HQ := Lib.hid hbel
  clear hput hbel e2 hown' hown hlen
  go_wp2
  go_ret2
  exact ⟨rfl, Or.inr HP.out, HQ.out⟩

theorem Bld.below {B b : Nat} {l : List UInt8} {w w' : World} (h : Bld B b l w) (hb : Below w.heap.size w w') : Bld B b l w' := by
  rcases h with h | h
  all_goals
    have hlt := h.lt
    obtain ⟨h1, v, h2, h3, h4⟩ := h
  · exact Or.inl ⟨h1, v, (hb.block b hlt).trans h2, own_below h3 hb, h4⟩
  · exact Or.inr ⟨h1, v, (hb.block b hlt).trans h2, own_below h3 hb, h4⟩

theorem builderString_calls (B b : Nat) (l : List UInt8) (w : World) (h : Bld B b l w) (hBw : B ≤ w.heap.size) :
    Calls Tryd.prog 43 #[.pointer (some ⟨b, 0, none⟩)] w fun e w' => e = .returned (.string (bs l)) ∧ Below B w w' :=
  Tryd.Builder_String_any B b l w h hBw

theorem fformat_calls (va : Value) (l : List Fld) (w : World) (Ha : RdF w va l) (hl : fsize l ≤ 2000000) :
    Calls Tryd.prog 27 #[va] w fun e w' => e = .returned (.string (formatB l)) ∧ Below w.heap.size w w' := by
  obtain ⟨a, cap, rfl, hlc, hcm, -, hc⟩ := Ha
  unfold maxLen at hcm
  have hlen := fsize_length l
  have hll := Lib.hid (show ∀ k, (linesL (l.take k)).length ≤ 2 * fsize l from linesL_take_length l)
  have hf := Lib.hid (fun f (hf : f ∈ l) => show f.name.size ≤ maxLen ∧ f.val.size ≤ maxLen ∧ f.name.size + f.val.size ≤ 2000000 from by have := fsize_mem hf; refine ⟨?_, ?_, ?_⟩ <;> (try simp only [maxLen]) <;> omega)
  go_enter Tryd.func27, Tryd.ntmps27
  go_wp2
  go_loopw [8] (fun i wr => ∃ k : Nat, k ≤ l.length ∧ i = .int .i64 k ∧ Bld w.heap.size w.heap.size (linesL (l.take k)) wr ∧ Below w.heap.size w wr ∧ Hid ((l.take k).all validF = true)) (fun i _ => l.length - (intOf i).toNat)
  case atStart => exact ⟨0, Nat.zero_le _, rfl, Bld.fresh w, (Below.refl _ _).alloc (Nat.le_refl _) _, Lib.hid rfl⟩
  case round =>
    obtain ⟨k, hk, rfl, hbl, hb, hall⟩ := hrel
    by_cases hlt : k < l.length
    · obtain ⟨b, off, rfl, hcell, hcell2⟩ := (hc.below hb).fld k hlt
      have hki : (k : Int) < (l.length : Int) := by omega
      obtain ⟨hfn, hfv, hfs⟩ := hf.out l[k] (List.getElem_mem hlt)
      have hsz := hll.out k
      have hbs := hb.size
      clear hc
      cases hv : validF l[k] with
      | true =>
        go_wp2_with fail
        refine (valid_calls l[k] _ hfn hfv).mono ?_
        rintro e w1 ⟨rfl, hb1⟩
        rw [hv]
        have k0 := (keptN hb1 0).1
        have k1 := (keptN hb1 1).1
        have hbw := kept_below hb1
        have HB := Below.self_trans hb hbw
        have hbl1 := hbl.below hbw
        have hbs1 := HB.size
        clear hb1 hbw hb hbl hcell hcell2
        have hls : (lineB l[k]).size = l[k].name.size + l[k].val.size + 4 := lineB_size _
        have HT := Lib.hid (linesL_take l k hlt)
        have HL := Lib.hid (bl_lineB l[k])
        have HA := Lib.hid (allF_succ k hlt hall.out hv)
        go_wp2_with fail
        refine (writeString_calls w.heap.size w.heap.size (linesL (l.take k)) (lineB l[k]) _ hbl1 (by rw [hls]; omega) hbs1).mono ?_
        rintro e w2 ⟨rfl, hbl2, hb2⟩
        have HB2 := HB.trans hb2
        rw [HL.out, ← HT.out] at hbl2
        clear HB hbl1 hb2 k0 k1
        go_wp2
        go_roundw
        case rel => exact ⟨k + 1, by omega, by go_num, hbl2, HB2, HA⟩
        case measure => simp [intOf]; omega
      | false =>
        go_wp2_with fail
        refine (valid_calls l[k] _ hfn hfv).mono ?_
        rintro e w1 ⟨rfl, hb1⟩
        rw [hv]
        have hbw := kept_below hb1
        have HB := Below.self_trans hb hbw
        have HF := Lib.hid (format_fail k hlt hv)
        clear hb1 hbw hb hbl hcell hcell2
        go_wp2
        go_ret
        exact ⟨by rw [HF.out]; rfl, HB⟩
    · have hkl : k = l.length := by omega
      have ht : l.take k = l := List.take_of_length_le (by omega)
      have hall2 := hall.out
      rw [ht] at hbl hall2
      have HF := Lib.hid (format_done hall2)
      have hbs := hb.size
      clear hc hall hall2 ht
      go_wp2_with fail
      refine (builderString_calls w.heap.size w.heap.size (linesL l) _ hbl hbs).mono ?_
      rintro e w1 ⟨rfl, hb1⟩
      have HB := hb.trans hb1
      clear hb hb1 hbl
      go_wp2
      go_ret
      exact ⟨ret_str HF.out.symm, HB⟩

end Go.Proofs.YtglljdhhgmgbgaaDoor