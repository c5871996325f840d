/- awake of the law package 12. -/
import Derived.Test.YtajohphiclbjkaaDoorRRWMake
import Derived.Test.YtajohphiclbjkaaDoorRRWSend
namespace Go.Proofs.YtajohphiclbjkaaDoorRR
open Go.RowKit Go.Own
set_option linter.unusedVariables false
set_option maxHeartbeats 2000000

def F3 : List Fld := [⟨sCT, sTP⟩, ⟨sCL, ⟨#[51]⟩⟩, ⟨⟨#[88]⟩, ⟨#[121]⟩⟩]
def lit12 : List UInt8 := [72, 84, 84, 80, 47, 49, 46, 49, 32, 52, 48, 52, 32, 78, 111, 116, 32, 70, 111, 117, 110, 100, 13, 10, 67, 111, 110, 116, 101, 110, 116, 45, 84, 121, 112, 101, 58, 32, 116, 101, 120, 116, 47, 112, 108, 97, 105, 110, 13, 10, 67, 111, 110, 116, 101, 110, 116, 45, 76, 101, 110, 103, 116, 104, 58, 32, 51, 13, 10, 88, 58, 32, 121, 13, 10, 13, 10, 110, 111, 10]
theorem make12 : makeF sTP 3 [⟨⟨#[88]⟩, ⟨#[121]⟩⟩] = F3 := by
  have h : bs (digs 10 3) = ⟨#[51]⟩ := by rw [digs_small (by omega)]; decide
  unfold makeF; rw [h]; rfl
theorem reason404 : reasonOf 404 = ⟨#[78, 111, 116, 32, 70, 111, 117, 110, 100]⟩ := by decide +kernel
theorem valid12 : F3.all validF = true := by decide +kernel
theorem fmt12 : fmtSt 404 ⟨#[78, 111, 116, 32, 70, 111, 117, 110, 100]⟩ 1 = bs [72, 84, 84, 80, 47, 49, 46, 49, 32, 52, 48, 52, 32, 78, 111, 116, 32, 70, 111, 117, 110, 100] := by
  refine bl_inj ?_
  obtain ⟨k, hk, k1, k2, v, hv, hb⟩ := fmtSt_bl (st := 404) (n := 1) (r := ⟨#[78, 111, 116, 32, 70, 111, 117, 110, 100]⟩) (by decide +kernel)
  rw [hb]
  obtain rfl : k = 404 := by omega
  rcases hv with ⟨-, h⟩ | ⟨rfl, -⟩
  · omega
  · rfl
theorem bytes12 : msgB (headB (fmtSt 404 ⟨#[78, 111, 116, 32, 70, 111, 117, 110, 100]⟩ 1) F3) [110, 111, 10] = lit12 := by
  rw [fmt12, headB_ok (by decide +kernel) valid12]
  decide +kernel

theorem c12a (vm : Value) (w : World) (hE : EnvW w) (Hm : RdF w vm [⟨⟨#[88]⟩, ⟨#[121]⟩⟩]) :
    Calls Tryd.prog 43 #[.int .i64 404, .string ⟨#[110, 111, 10]⟩, vm] w fun e w' => (∃ vf vb, e = .returned (.agg #[.int .i64 404, .string ⟨#[78, 111, 116, 32, 70, 111, 117, 110, 100]⟩, .int .i64 1, vf, vb]) ∧ RdF w' vf F3 ∧ RdB w' vb [110, 111, 10]) ∧ Below w.heap.size w w' := by
  refine (text_calls12 404 ⟨#[110, 111, 10]⟩ vm _ w hE Hm (by decide) (by decide)).mono ?_
  rintro e w' ⟨⟨vf, vb, rfl, hf, hm⟩, hb⟩
  rw [reason404]
  refine ⟨⟨vf, vb, rfl, ?_, hm.rd⟩, hb⟩
  have h := hf.rd
  rw [show (⟨#[110, 111, 10]⟩ : ByteArray).size = 3 from rfl, make12] at h
  exact h
theorem c12b (vf vb : Value) (w : World) (hE : EnvP w) (Hf : RdF w vf F3) (Hb : RdB w vb [110, 111, 10]) :
    Calls Tryd.prog 50 #[.agg #[.int .i64 404, .string ⟨#[78, 111, 116, 32, 70, 111, 117, 110, 100]⟩, .int .i64 1, vf, vb]] w fun e w' => (∃ v, e = .returned v ∧ RdB w' v lit12) ∧ Below w.heap.size w w' := by
  refine (wrep_calls 404 _ 1 vf vb F3 _ w hE (by decide) Hf Hb (by decide +kernel) (by decide)).mono ?_
  rintro e w' ⟨⟨v, rfl, hr⟩, hb⟩
  rw [bytes12] at hr
  exact ⟨⟨v, rfl, hr⟩, hb⟩

set_option maxRecDepth 100000 in
theorem awake12_calls (w : World) (hE : EnvW w) : Calls Tryd.prog 47 #[] w fun e w' => e = .returned (.bool true) ∧ Below w.heap.size w w' := by
  have HB0 := (Below.refl w.heap.size w).alloc (Nat.le_refl _) (.cells #[.string ⟨#[88]⟩, .string ⟨#[121]⟩] 62)
  have CA := Lib.hid (fun vm w hE Hm => c12a vm w hE Hm)
  have CB := Lib.hid (fun vf vb w hE Hf Hb => c12b vf vb w hE Hf Hb)
  go_enter Tryd.func47, Tryd.ntmps47
  go_wp2_with fail
  refine (CA.out _ _ (hE.below HB0) (rdf_new' w [⟨⟨#[88]⟩, ⟨#[121]⟩⟩] _ _ _ rfl rfl rfl (by simp))).mono ?_
  rintro e w1 ⟨⟨vf, vb, rfl, hf, hm⟩, hb⟩
  have HB1 := Below.self_trans HB0 hb
  obtain ⟨af, cf, rfl, -, -, -, hcf⟩ := id hf
  obtain ⟨ab, cb, rfl, -, -, -, hcb⟩ := id hm
  obtain ⟨b, off, rfl, d2, d3⟩ := RdC.fld (l := F3) hcf 1 (by decide)
  have g2 : ∀ o : Obj, (w1.alloc o).cell? ⟨b, off + 2, none⟩ = some (.string ⟨#[67, 111, 110, 116, 101, 110, 116, 45, 76, 101, 110, 103, 116, 104]⟩) := fun o => cell_below ((Below.refl _ _).alloc (Nat.le_refl _) o) d2
  have g3 : ∀ o : Obj, (w1.alloc o).cell? ⟨b, off + 2 + 1, none⟩ = some (.string ⟨#[51]⟩) := fun o => cell_below ((Below.refl _ _).alloc (Nat.le_refl _) o) d3
  have HF := Lib.hid hf
  have HM := Lib.hid hm
  clear hb hf hm hcf hcb d2 d3
  go_wp2_with fail
  have HB2 := HB1.alloc HB1.size (.cells #[.int .i64 404, .string ⟨#[78, 111, 116, 32, 70, 111, 117, 110, 100]⟩, .int .i64 1, .slice (some ⟨b, off, none⟩) 3 cf, .slice ab 3 cb] 43)
  refine (CB.out _ _ _ (hE.p.below HB2) (RdF.below HF.out ((Below.refl _ _).alloc (Nat.le_refl _) _)) (RdB.below HM.out ((Below.refl _ _).alloc (Nat.le_refl _) _))).mono ?_
  rintro e w2 ⟨⟨v, rfl, hr⟩, hb2⟩
  have HB3 := Below.self_trans HB2 hb2
  obtain ⟨al, cl, rfl, -, -, -, hcl⟩ := hr
  clear hb2 g2 g3 HF HM
  go_wp2_with (refine wpList_bytesstr rfl 25 9 _ rfl _ _ _ rfl 5 Tryd.underlying25 Tryd.underlying5 Tryd.underlying9 lit12 rfl hcl ?_)
  go_ret
  exact ⟨ret_bool (by decide +kernel), HB3⟩
end Go.Proofs.YtajohphiclbjkaaDoorRR
