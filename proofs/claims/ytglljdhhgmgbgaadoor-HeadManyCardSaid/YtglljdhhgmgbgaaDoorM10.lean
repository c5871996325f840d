/- The core of HeadMany. -/
import Derived.Test.YtglljdhhgmgbgaaDoorAw10
import Derived.Test.YtglljdhhgmgbgaaDoorHeadF
import Derived.Deep.DeepCutAuto
import Derived.Deep.CutBlock
namespace Go.Proofs.YtglljdhhgmgbgaaDoor
open Go.RowKit Go.Own
set_option linter.unusedVariables false
set_option maxHeartbeats 2000000

def hostA : Fld := ⟨⟨#[72, 111, 115, 116]⟩, ⟨#[97]⟩⟩
def manyF : Fld := ⟨⟨#[65]⟩, ⟨#[98]⟩⟩
def manyL (k : Nat) : List Fld := hostA :: List.replicate k manyF
theorem manyL_len (k : Nat) : (manyL k).length = k + 1 := by simp [manyL]
theorem manyL_succ (k : Nat) : manyL k ++ [manyF] = manyL (k + 1) := by
  unfold manyL; rw [List.cons_append, ← List.replicate_succ']
theorem manyL_valid (k : Nat) : (manyL k).all validF = true := by
  have h1 : validF hostA = true := by decide +kernel
  have h2 : validF manyF = true := by decide +kernel
  rw [List.all_eq_true]
  intro f hf
  rcases List.mem_cons.1 hf with rfl | hf
  · exact h1
  · rw [List.eq_of_mem_replicate hf]; exact h2
theorem manyL_hosts (k : Nat) : hostsBad (manyL k) 1 = false := by
  have h1 : foldB hostA.name hHost = true := by decide +kernel
  have h2 : ¬ (foldB manyF.name hHost = true) := by decide +kernel
  have e : (valuesS (manyL k) hHost).length = 1 := by
    unfold valuesS manyL
    rw [List.length_map, List.filter_cons, if_pos h1, List.filter_replicate, if_neg h2]
    rfl
  unfold hostsBad
  rw [e]; rfl
theorem manyL_fsize (k : Nat) : fsize (manyL k) = 7 + k * 4 := by
  unfold fsize manyL
  rw [List.map_cons, List.sum_cons, List.map_replicate, List.sum_replicate_nat]
  show 7 + k * 4 = _
  rfl
def getB : ByteArray := ⟨#[71, 69, 84]⟩
def rootB : ByteArray := ⟨#[47]⟩
theorem many_ok : okReq getB rootB 1 = true := by decide +kernel
theorem reqB_many (k : Nat) : reqB (headB (fmtReq getB rootB 1) (manyL k)) = if 64 < k + 1 then ((.empty, .empty, 0, []), 3) else ((getB, rootB, 1, manyL k), 0) := by
  rw [reqB_head many_ok (manyL_valid k), manyL_len, manyL_hosts]
  rfl

def manyRow (v : Value) : Obj := .cells #[.string ⟨#[71, 69, 84]⟩, .string ⟨#[47]⟩, .int .i64 1, v, .bool false, .slice none 0 0] 28
def ManyAt (w wr : World) (k : Nat) (a : Option Addr) (c : Nat) : Prop :=
  wr.heap[w.heap.size + 1]? = some (manyRow (.slice a (k + 1) c)) ∧ wr.ownsRow w.heap.size 24 2 (.slice a (k + 1) c) (k + 1) (fieldsV (manyL k)) ∧ blk a ≠ some (w.heap.size + 1) ∧ Below w.heap.size w wr
theorem ManyAt.start (w : World) : ManyAt w ((w.alloc (.cells #[.string ⟨#[72, 111, 115, 116]⟩, .string ⟨#[97]⟩] 24)).alloc (manyRow (.slice (some ⟨w.heap.size, 0, none⟩) 1 1))) 0 (some ⟨w.heap.size, 0, none⟩) 1 := by
  refine ⟨?_, ?_, by simp [blk], ((Below.refl _ _).alloc (Nat.le_refl _) _).alloc (by simp) _⟩
  · have := heap_alloc_new (w.alloc (.cells #[.string ⟨#[72, 111, 115, 116]⟩, .string ⟨#[97]⟩] 24)) (manyRow (.slice (some ⟨w.heap.size, 0, none⟩) 1 1))
    rwa [World.size_alloc] at this
  · exact (World.ownsRow_lit (base := w.heap.size) (e := 24) (size := 2) w #[.string ⟨#[72, 111, 115, 116]⟩, .string ⟨#[97]⟩] 1 (Nat.le_refl _) (by decide) (by rfl)).alloc _
theorem ManyAt.put {w wr w5 : World} {k : Nat} {a a1 : Option Addr} {c c1 : Nat} (h : ManyAt w wr k a c) (hown : w5.ownsRow w.heap.size 24 2 (.slice a1 (k + 1 + 1) c1) (k + 1 + 1) (fieldsV (manyL k) ++ manyF.cells)) (hg : wr.grownBy w5 (blk a))
    (hw : blk a1 = blk a ∨ ∃ g, blk a1 = some g ∧ wr.heap.size ≤ g) (hb : Below w.heap.size w w5) : ManyAt w (w5.setCell ⟨w.heap.size + 1, 3, none⟩ (.slice a1 (k + 1 + 1) c1)) (k + 1) a1 c1 := by
  obtain ⟨h1, h2, h3, h4⟩ := h
  have hlt := (Array.getElem?_eq_some_iff.1 h1).1
  have r5 : w5.heap[w.heap.size + 1]? = some (manyRow (.slice a (k + 1) c)) := (hg.block _ hlt (fun e => h3 e.symm)).trans h1
  have hne : blk a1 ≠ some (w.heap.size + 1) := by
    rcases hw with e | ⟨g, e, hgt⟩
    · rw [e]; exact h3
    · rw [e]; intro q; have := Option.some.inj q; omega
  refine ⟨(heap_setCell_same w5 _ 3 _ _ _ r5).trans (by simp [manyRow]), ?_, hne, hb.setCell (by simp) _⟩
  rw [← manyL_succ, show fieldsV (manyL k ++ [manyF]) = fieldsV (manyL k) ++ manyF.cells by simp [fieldsV]]
  refine ⟨hown.1, ?_⟩
  rcases hown.2 with e | ⟨g, cap, cur, hv, hb', hg', rest⟩
  · exact Or.inl e
  · refine Or.inr ⟨g, cap, cur, hv, hb', ?_, rest⟩
    rw [heap_setCell_other w5 ⟨w.heap.size + 1, 3, none⟩ g _ ?_]
    · exact hg'
    · intro e
      have : a1 = some ⟨g, 0, none⟩ := by simpa using congrArg (fun v => match v with | Value.slice a _ _ => a | _ => none) hv
      subst this
      exact hne (by simp only [blk, Option.map_some]; rw [e])
def lenAt (w : World) (g : Nat) : Nat := match w.cell? ⟨g, 3, none⟩ with | some (.slice _ n _) => n | _ => 0
theorem many_one : ∀ u ∈ manyF.cells, u.oneCell' = true := by decide

set_option maxRecDepth 100000 in
theorem headMany_core (n : Int) (w : World) (hE : EnvP w) (hn : In64 n) :
    Calls Tryd.prog 3 #[.int .i64 n] w fun e w' => e = .returned (.bool true) ∧ Below w.heap.size w w' := by
  obtain ⟨b1, b2⟩ := within_bd n 100 (by omega)
  have HS := Lib.hid (ManyAt.start w)
  go_enter Tryd.func3, Tryd.ntmps3
  go_wp2_with fail
  refine (within_calls n 100 _ hn (by omega) (by omega)).mono ?_
  rintro e w1 ⟨rfl, rfl⟩
  obtain ⟨N, hk⟩ := Int.eq_ofNat_of_zero_le b1
  rw [hk] at b1 b2 ⊢
  clear hk hn
  have hN : N < 100 := by omega
  go_wp2
  go_loopw [16] (fun _ wr => ∃ k a c, k ≤ N ∧ ManyAt w wr k a c) (fun _ wr => N + 1 - lenAt wr (w.heap.size + 1))
  case atStart => exact ⟨0, _, _, Nat.zero_le _, HS.out⟩
  case round =>
    obtain ⟨k, a, c, hkN, HM⟩ := hrel
    have HM := Lib.hid HM
    obtain ⟨⟨c0, c1, c2, c3, c4, c5⟩, ⟨f0, f1, f2, f3, f4, f5⟩, -⟩ := row6 HM.out.1
    have HB := HM.out.2.2.2
    have HL := Lib.hid (show lenAt wr (w.heap.size + 1) = k + 1 by unfold lenAt; rw [c3])
    by_cases hlt : k < N
    · have hltI : decide ((k : Int) + 1 < 1 + (N : Int)) = true := by rw [decide_eq_true_eq]; omega
      have hroom : (k + 1 + 1) * 32 ≤ 140737488355328 := by omega
      have hroom2 : k + 1 + 1 ≤ maxLen := by simp [maxLen]; omega
      go_wp2_with (at_builtin; refine wpList_append_one rfl (.tmp 18) (.tmp 20) 25 rfl w HB 24 (.agg #[.string .empty, .string .empty]) 2 32 Tryd.underlying25 info_fld rfl (by decide) a (k + 1) c (fieldsV (manyL k)) manyF.cells rfl many_one rfl HM.out.2.1 rfl hroom hroom2 ?_; intro a1 c1' w5 hb5 hown5 hg5 hw5; have hm5 := Lib.hid (HM.out.put hown5 hg5 hw5 hb5); obtain ⟨⟨d0, d1, d2, d3, d4, d5⟩, ⟨e0, e1, e2, e3, e4, e5⟩, -⟩ := row6 ((hg5.block _ (Array.getElem?_eq_some_iff.1 HM.out.1).1 (fun e => HM.out.2.2.1 e.symm)).trans HM.out.1))
      go_roundw
      case rel => exact ⟨k + 1, _, _, by omega, hm5.out⟩
      case measure =>
        obtain ⟨⟨-, -, -, q3, -, -⟩, -, -⟩ := row6 hm5.out.1
        have e1 : lenAt (w5.setCell ⟨w.heap.size + 1, 3, none⟩ (.slice a1 (k + 1 + 1) c1')) (w.heap.size + 1) = k + 1 + 1 := by unfold lenAt; rw [q3]
        rw [HL.out, e1]; omega
    · have hltI : decide ((k : Int) + 1 < 1 + (N : Int)) = false := by rw [decide_eq_false_iff_not]; omega
      obtain rfl : k = N := by omega
      have hfs := manyL_fsize k
      have hln := headB_length (fmtReq getB rootB 1) (manyL k)
      have hgs := fmtReq_size getB rootB 1
      have HRB := Lib.hid (reqB_many k)
      have CF := Lib.hid (fun w hE H => hfmtReq_calls getB rootB 1 (.slice a (k + 1) c) false (.slice none 0 0) (manyL k) w hE (by decide) (by decide) H (by omega))
      have hz : (headB (fmtReq getB rootB 1) (manyL k)).length ≤ 2000000 := by
        have e1 : getB.size = 3 := rfl
        have e2 : rootB.size = 1 := rfl
        unfold fsize at hfs
        omega
      have CP := Lib.hid (fun w v hE H => hreq_calls v (headB (fmtReq getB rootB 1) (manyL k)) w hE H hz)
      rw [HRB.out] at CP
      generalize headB (fmtReq getB rootB 1) (manyL k) = H at CF CP
      have HF : RdF wr (.slice a (k + 1) c) (manyL k) := by
        have := HM.out.2.1
        have e : (manyL k).length = k + 1 := manyL_len k
        have h3 : OwnF w.heap.size wr (.slice a (k + 1) c) (manyL k) := by rw [OwnF, e]; exact this
        exact h3.rd
      have HFH := Lib.hid HF
      unfold getB rootB at CF CP
      clear hfs hln hgs hz HRB HF hlt HL HS
      go_wp2_with fail
      refine (CF.out _ (hE.below HB) HFH.out).mono ?_
      rintro e w2 ⟨⟨v2, rfl, hr2⟩, hb2⟩
      obtain ⟨a2, c2', rfl, -, -, -, -⟩ := id hr2
      have HB2 := Lib.hid (Below.self_trans HB hb2)
      have HR2 := Lib.hid hr2
      clear hr2 hb2 CF HFH c0 c1 c2 c3 c4 c5 f0 f1 f2 f3 f4 f5 HM HB
      go_wp2_with fail
      refine (CP.out _ _ (hE.env.below HB2.out) HR2.out).mono ?_
      rintro e w3 ⟨⟨vx, rfl, hx⟩, hb3⟩
      have HB3 := Lib.hid (Below.self_trans HB2.out hb3)
      clear hb3 CP HR2 HB2
      by_cases hk : 64 < k + 1
      · simp only [if_pos hk] at hx ⊢
        have hkI : decide ((64 : Int) < 1 + (k : Int)) = true := by rw [decide_eq_true_eq]; omega
        have HX := box_one (w1 := w3) (.cells #[.string .empty, .string .empty, .int .i64 0, vx, .bool false, .slice none 0 0] 28)
        have HB4 := Lib.hid (Below.self_trans HB3.out HX)
        obtain ⟨ax, cx, rfl, -, -, -⟩ := owned_slice hx
        clear hx HX HB3 hk
        go_wp2_with fail
        refine (awake10_calls _ (hE.below HB4.out)).mono ?_
        rintro e w5 ⟨rfl, hb5⟩
        go_wp2
        go_ret
        exact ⟨rfl, Below.self_trans HB4.out hb5⟩
      · simp only [if_neg hk] at hx ⊢
        have hkI : decide ((64 : Int) < 1 + (k : Int)) = false := by rw [decide_eq_false_iff_not]; omega
        obtain ⟨ax, cx, rfl, -, -, -⟩ := owned_slice hx
        rw [manyL_len]
        have HX := box_one (w1 := w3) (.cells #[.string ⟨#[71, 69, 84]⟩, .string ⟨#[47]⟩, .int .i64 1, .slice ax (k + 1) cx, .bool false, .slice none 0 0] 28)
        have HB4 := Lib.hid (Below.self_trans HB3.out HX)
        have hne : (((k + 1 : Nat) : Int) == 1 + (k : Int)) = true := by rw [beq_iff_eq]; omega
        have hne2 : (((k : Int) + 1) == 1 + (k : Int)) = true := by rw [beq_iff_eq]; omega
        clear hx HX HB3 hk
        go_wp2_with fail
        refine (awake10_calls _ (hE.below HB4.out)).mono ?_
        rintro e w5 ⟨rfl, hb5⟩
        go_wp2
        go_ret
        exact ⟨rfl, Below.self_trans HB4.out hb5⟩
end Go.Proofs.YtglljdhhgmgbgaaDoor
