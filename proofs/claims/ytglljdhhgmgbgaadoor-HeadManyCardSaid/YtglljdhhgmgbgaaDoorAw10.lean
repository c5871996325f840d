/- awake of layer 10. -/
import Derived.Test.YtglljdhhgmgbgaaDoorHeadR
import Derived.Test.YtglljdhhgmgbgaaDoorHeadF
import Derived.Test.YtglljdhhgmgbgaaDoorPB
namespace Go.Proofs.YtglljdhhgmgbgaaDoor
open Go.RowKit Go.Own
set_option linter.unusedVariables false
set_option maxHeartbeats 4000000
set_option linter.unusedSimpArgs false
attribute [local go_sem ↓] Go.wp_at_zero Go.wp_at_succ

def litA : List UInt8 := [71, 69, 84, 32, 47, 32, 72, 84, 84, 80, 47, 49, 46, 49, 13, 10, 72, 111, 115, 116, 58, 32, 97, 13, 10, 13, 10, 109, 111, 114, 101]
def aGet : ByteArray := ⟨#[71, 69, 84]⟩
def aTgt : ByteArray := ⟨#[47]⟩
def aFld : List Fld := [⟨hHost, ⟨#[97]⟩⟩]
theorem litA_head : litA.take 27 = headB (fmtReq aGet aTgt 1) aFld := by decide +kernel
theorem litA_ok : okReq aGet aTgt 1 = true ∧ aFld.all validF = true ∧ hostsBad aFld 1 = false := by decide +kernel
theorem litA_req : reqB (litA.take 27) = ((aGet, aTgt, 1, aFld), 0) := by
  rw [litA_head, reqB_head litA_ok.1 litA_ok.2.1, litA_ok.2.2]; rfl
theorem litA_end : endV litA 100 = (27, 0) := by decide +kernel
theorem litA_size : fsize aFld ≤ 100 ∧ aGet.size ≤ 100 ∧ aTgt.size ≤ 100 := by decide +kernel
def aRow (vx : Value) : Obj := .cells #[.string aGet, .string aTgt, .int .i64 1, vx, .bool false, .slice none 0 0] 28
/-- what each operation of the last statement yields -/
def spA (L : List UInt8) (g : Nat) (ax : Option Addr) (cx g0 : Nat) : Nat → Value → World → Prop
  | 0, v, _ => v = .int .i64 0
  | 3, v, _ => v = .pointer (some ⟨g, 0, none⟩)
  | 4, v, _ => v = .string aGet
  | 8, v, _ => v = .pointer (some ⟨g, 3, none⟩)
  | 9, v, _ => v = .slice ax 1 cx
  | 10, v, _ => v = .int .i64 1
  | 14, v, _ => v = .agg #[.string aGet, .string aTgt, .int .i64 1, .slice ax 1 cx, .bool false, .slice none 0 0]
  | 15, v, w => RdB w v L
  | 16, v, _ => v = .string ⟨L.toArray⟩
  | 17, v, _ => v = .slice (some ⟨g0, 0, none⟩) 31 31
  | 18, v, _ => v = .int .i64 27
  | 19, v, _ => v = .slice (some ⟨g0, 0, none⟩) 27 31
  | 20, v, _ => v = .string ⟨L.toArray⟩
  | _, v, _ => v = .bool true
theorem spA_mono {L : List UInt8} {g : Nat} {ax : Option Addr} {cx g0 : Nat} (j : Nat) (v : Value) (x y : World) (h : Below x.heap.size x y) : spA L g ax cx g0 j v x → spA L g ax cx g0 j v y := by
  unfold spA
  split
  all_goals first
    | exact id
    | exact fun h2 => RdB.below h2 h

set_option maxRecDepth 100000 in
theorem awake10_calls (w : World) (hE : EnvP w) : Calls Tryd.prog 7 #[] w fun e w' => e = .returned (.bool true) ∧ Below w.heap.size w w' := by
  have hcv := run_convert_mark (P := Tryd.prog) w 26 5 #[.int .u8 71, .int .u8 69, .int .u8 84, .int .u8 32, .int .u8 47, .int .u8 32, .int .u8 72, .int .u8 84, .int .u8 84, .int .u8 80, .int .u8 47, .int .u8 49, .int .u8 46, .int .u8 49, .int .u8 13, .int .u8 10, .int .u8 72, .int .u8 111, .int .u8 115, .int .u8 116, .int .u8 58, .int .u8 32, .int .u8 97, .int .u8 13, .int .u8 10, .int .u8 13, .int .u8 10, .int .u8 109, .int .u8 111, .int .u8 114, .int .u8 101] 5 31 31 Tryd.underlying26 Tryd.underlying5
  have HB0 := (Below.refl w.heap.size w).alloc (Nat.le_refl _) (.cells #[.int .u8 71, .int .u8 69, .int .u8 84, .int .u8 32, .int .u8 47, .int .u8 32, .int .u8 72, .int .u8 84, .int .u8 84, .int .u8 80, .int .u8 47, .int .u8 49, .int .u8 46, .int .u8 49, .int .u8 13, .int .u8 10, .int .u8 72, .int .u8 111, .int .u8 115, .int .u8 116, .int .u8 58, .int .u8 32, .int .u8 97, .int .u8 13, .int .u8 10, .int .u8 13, .int .u8 10, .int .u8 109, .int .u8 111, .int .u8 114, .int .u8 101] 5 (31, 32))
  have HRb := RdC_new w (bytesV litA) 5 (31, 32)
  have HRB : RdB (w.alloc (.cells #[.int .u8 71, .int .u8 69, .int .u8 84, .int .u8 32, .int .u8 47, .int .u8 32, .int .u8 72, .int .u8 84, .int .u8 84, .int .u8 80, .int .u8 47, .int .u8 49, .int .u8 46, .int .u8 49, .int .u8 13, .int .u8 10, .int .u8 72, .int .u8 111, .int .u8 115, .int .u8 116, .int .u8 58, .int .u8 32, .int .u8 97, .int .u8 13, .int .u8 10, .int .u8 13, .int .u8 10, .int .u8 109, .int .u8 111, .int .u8 114, .int .u8 101] 5 (31, 32))) (.slice (some ⟨w.heap.size, 0, none⟩) 31 31) litA := RdB_of rfl (by decide) (by simp [maxLen]) (by simp) HRb
  have HC1 := Lib.hid (hend_calls (.slice (some ⟨w.heap.size, 0, none⟩) 31 31) litA 100 _ (hE.env.below HB0) HRB (by decide))
  rw [litA_end] at HC1
  have HR0 := Lib.hid HRB
  clear HRb HRB
  go_enter Tryd.func7, Tryd.ntmps7
  go_wp2_with fail
  refine HC1.out.mono ?_
  rintro e w1 ⟨rfl, hb1⟩
  have HB1 := Below.self_trans HB0 hb1
  have HR1 := Lib.hid (HR0.out.below hb1)
  have hlt1 : w.heap.size < w1.heap.size := by have := hb1.size; simp at this; omega
  clear hb1 HB0 HR0 HC1 hcv
  obtain ⟨_, _, e1, -, -, -, hc1⟩ := HR1.out
  cases e1
  have HRT : RdB w1 (.slice (some ⟨w.heap.size, 0, none⟩) 27 31) (litA.take 27) := by
    have := Rd_take (cap := 31) hc1 27 (by simp [maxLen]) (by simp) (by decide)
    exact this
  have HC2 := Lib.hid (hreq_calls (.slice (some ⟨w.heap.size, 0, none⟩) 27 31) (litA.take 27) w1 (hE.env.below HB1) HRT (by decide))
  rw [litA_req] at HC2
  have hbs : bytesV (litA.take 27) = (bytesV litA).take 27 := rfl
  have HT1 := Lib.hid HRT
  clear hc1 HRT hbs
  go_wp2_with fail
  refine HC2.out.mono ?_
  rintro e w2 ⟨⟨vx, rfl, hx⟩, hb2⟩
  have hx := OwnF.rd hx
  obtain ⟨ax, cx, rfl, -, -, -, -⟩ := id hx
  have HX := box_one (w1 := w2) (aRow (.slice ax 1 cx))
  have HG := Lib.hid (heap_alloc_new w2 (aRow (.slice ax 1 cx)))
  have HB2 := Lib.hid (Below.self_trans (Below.self_trans HB1 hb2) HX)
  have HFX := Lib.hid (show RdF (w2.alloc (aRow (.slice ax 1 cx))) (.slice ax 1 cx) aFld from hx.below HX)
  have HT2 := Lib.hid ((HT1.out.below hb2).below HX)
  have HE2 := Lib.hid (hE.below HB2.out)
  clear HC2 hb2 hx HR1 HT1 HX HB1 hlt1
  have HGc := Lib.hid (show (w2.alloc (aRow (.slice ax 1 cx))).heap[w2.heap.size]? = some (.cells #[.string aGet, .string aTgt, .int .i64 1, .slice ax 1 cx, .bool false, .slice none 0 0] 28) from HG.out)
  have e1 : (aGet.toList == [71, 69, 84]) = true := by decide +kernel
  have HC3 := Lib.hid (fun w' hE hf => hfmtReq_calls aGet aTgt 1 (.slice ax 1 cx) false (.slice none 0 0) aFld w' hE (Nat.le_trans litA_size.2.1 (by decide)) (Nat.le_trans litA_size.2.2 (by decide)) hf (Nat.le_trans litA_size.1 (by decide)))
  rw [← litA_head] at HC3
  have HLn := Lib.hid (show 27 = (litA.take 27).length from rfl)
  generalize litA.take 27 = L at HT2 HC3 HLn
  have e2 : ((⟨L.toArray⟩ : ByteArray).toList == (⟨L.toArray⟩ : ByteArray).toList) = true := by simp
  clear HG
  simp only [aGet, aTgt]
  go_wp2_with fail
  refine wp_region_spec_lit (Le := fun x y => Below x.heap.size x y) (w0 := w2.alloc (aRow (.slice ax 1 cx))) (Sp := spA L w2.heap.size ax cx w.heap.size) rfl (by kernel_rfl) (fun x y z h1 h2 => Below.self_trans h1 h2) spA_mono (fun x => Below.refl _ _) ⟨?_, ?_, ?_, ?_, ?_, ?_, ?_, ?_, ?_, ?_, ?_, ?_, ?_, ?_, ?_, ?_, ?_, ?_, ?_, ?_, ?_, ?_, ?_, ?_, trivial⟩ ?_
  · refine stepOk_val fun a w' hle hk hp => ⟨rfl, .int .i64 0, w', ?_, Below.refl _ _, rfl⟩
    have h5 := ev (kept_eval (s := 5) hk rfl)
    simp at h5
    clear hp hk hle
    simp [execOp, go_sem, h5]
  · refine stepOk_val fun a w' hle hk hp => ⟨rfl, .bool true, w', ?_, Below.refl _ _, rfl⟩
    have g0 := ev (show a.eval (.tmp 26) = .int .i64 0 from hp 0 _ rfl rfl)
    clear hp hk hle
    simp [execOp, go_sem, g0]
  · refine stepOk_val fun a w' hle hk hp => ⟨rfl, .bool true, w', ?_, Below.refl _ _, rfl⟩
    have g0 := ev (show a.eval (.tmp 27) = .bool true from hp 1 _ rfl rfl)
    clear hp hk hle
    simp [execOp, go_sem, g0]
  · refine stepOk_val fun a w' hle hk hp => ⟨wanted_of rfl rfl (hp 2 _ rfl rfl), .pointer (some ⟨w2.heap.size, 0, none⟩), w', ?_, Below.refl _ _, rfl⟩
    have h5 := ev (kept_eval (s := 4) hk rfl)
    simp at h5
    clear hp hk hle
    simp [execOp, go_sem, h5]
  · refine stepOk_val fun a w' hle hk hp => ⟨wanted_of rfl rfl (hp 2 _ rfl rfl), .string aGet, w', ?_, Below.refl _ _, rfl⟩
    have g0 := ev (show a.eval (.tmp 29) = .pointer (some ⟨w2.heap.size, 0, none⟩) from hp 3 _ rfl rfl)
    obtain ⟨hc, -, -⟩ := row6 (row_below HGc.out (of_drew hle))
    clear hp hk hle
    simp [execOp, go_sem, g0, hc]
  · refine stepOk_val fun a w' hle hk hp => ⟨wanted_of rfl rfl (hp 2 _ rfl rfl), .bool true, w', ?_, Below.refl _ _, rfl⟩
    have g0 := ev (show a.eval (.tmp 30) = .string aGet from hp 4 _ rfl rfl)
    clear hp hk hle
    simp [execOp, go_sem, g0, e1]
  · refine stepOk_val fun a w' hle hk hp => ⟨rfl, .bool true, w', ?_, Below.refl _ _, rfl⟩
    have g0 := ev (show a.eval (.tmp 28) = .bool true from hp 2 _ rfl rfl)
    have g1 := ev (show a.eval (.tmp 31) = .bool true from hp 5 _ rfl rfl)
    clear hp hk hle
    simp [execOp, go_sem, g0, g1]
  · refine stepOk_val fun a w' hle hk hp => ⟨rfl, .bool true, w', ?_, Below.refl _ _, rfl⟩
    have g0 := ev (show a.eval (.tmp 32) = .bool true from hp 6 _ rfl rfl)
    clear hp hk hle
    simp [execOp, go_sem, g0]
  · refine stepOk_val fun a w' hle hk hp => ⟨wanted_of rfl rfl (hp 7 _ rfl rfl), .pointer (some ⟨w2.heap.size, 3, none⟩), w', ?_, Below.refl _ _, rfl⟩
    have h5 := ev (kept_eval (s := 4) hk rfl)
    simp at h5
    clear hp hk hle
    simp [execOp, go_sem, h5]
  · refine stepOk_val fun a w' hle hk hp => ⟨wanted_of rfl rfl (hp 7 _ rfl rfl), .slice ax 1 cx, w', ?_, Below.refl _ _, rfl⟩
    have g0 := ev (show a.eval (.tmp 34) = .pointer (some ⟨w2.heap.size, 3, none⟩) from hp 8 _ rfl rfl)
    obtain ⟨hc, -, -⟩ := row6 (row_below HGc.out (of_drew hle))
    clear hp hk hle
    simp [execOp, go_sem, g0, hc]
  · refine stepOk_val fun a w' hle hk hp => ⟨wanted_of rfl rfl (hp 7 _ rfl rfl), .int .i64 1, w', ?_, Below.refl _ _, rfl⟩
    have g0 := ev (show a.eval (.tmp 35) = .slice ax 1 cx from hp 9 _ rfl rfl)
    clear hp hk hle
    simp [execOp, go_sem, g0]
  · refine stepOk_val fun a w' hle hk hp => ⟨wanted_of rfl rfl (hp 7 _ rfl rfl), .bool true, w', ?_, Below.refl _ _, rfl⟩
    have g0 := ev (show a.eval (.tmp 36) = .int .i64 1 from hp 10 _ rfl rfl)
    clear hp hk hle
    simp [execOp, go_sem, g0]
  · refine stepOk_val fun a w' hle hk hp => ⟨rfl, .bool true, w', ?_, Below.refl _ _, rfl⟩
    have g0 := ev (show a.eval (.tmp 33) = .bool true from hp 7 _ rfl rfl)
    have g1 := ev (show a.eval (.tmp 37) = .bool true from hp 11 _ rfl rfl)
    clear hp hk hle
    simp [execOp, go_sem, g0, g1]
  · refine stepOk_val fun a w' hle hk hp => ⟨rfl, .bool true, w', ?_, Below.refl _ _, rfl⟩
    have g0 := ev (show a.eval (.tmp 38) = .bool true from hp 12 _ rfl rfl)
    clear hp hk hle
    simp [execOp, go_sem, g0]
  · refine stepOk_val fun a w' hle hk hp => ⟨wanted_of rfl rfl (hp 13 _ rfl rfl), .agg #[.string aGet, .string aTgt, .int .i64 1, .slice ax 1 cx, .bool false, .slice none 0 0], w', ?_, Below.refl _ _, rfl⟩
    have h5 := ev (kept_eval (s := 4) hk rfl)
    simp at h5
    obtain ⟨hc, -, -⟩ := row6 (row_below HGc.out (of_drew hle))
    clear hp hk hle
    simp [execOp, go_sem, h5, hc]
  · refine stepOk_call fun a w' hle hk hp => ⟨wanted_of rfl rfl (hp 13 _ rfl rfl), 6, #[.agg #[.string aGet, .string aTgt, .int .i64 1, .slice ax 1 cx, .bool false, .slice none 0 0]], ?_, ?_⟩
    · have g0 := ev (show a.eval (.tmp 40) = .agg #[.string aGet, .string aTgt, .int .i64 1, .slice ax 1 cx, .bool false, .slice none 0 0] from hp 14 _ rfl rfl)
      clear hp hk hle
      simp [execOp, g0, go_sem]
    · have HBc := of_drew hle
      exact (HC3.out w' (HE2.out.below HBc) (HFX.out.below HBc)).mono fun e wn ⟨⟨v, he, hr⟩, hb⟩ => ⟨v, he, hb, hr⟩
  · refine stepOk_val fun a w' hle hk hp => ⟨wanted_of rfl rfl (hp 13 _ rfl rfl), .string ⟨L.toArray⟩, w', ?_, Below.refl _ _, rfl⟩
    obtain ⟨av, cv, h5, -, -, -, hcv⟩ : RdB w' (a.eval (.tmp 41)) L := hp 15 _ rfl rfl
    have h5 := ev h5
    have kv := conv_bytes (P := Tryd.prog) (cap := cv) Tryd.underlying26 Tryd.underlying5 Tryd.underlying9 (n := L.length) rfl hcv
    clear hp hk hle
    simp [execOp, h5, go_sem, kv]
  · refine stepOk_val fun a w' hle hk hp => ⟨wanted_of rfl rfl (hp 13 _ rfl rfl), .slice (some ⟨w.heap.size, 0, none⟩) 31 31, w', ?_, Below.refl _ _, rfl⟩
    have h5 := ev (kept_eval (s := 1) hk rfl)
    simp at h5
    clear hp hk hle
    simp [execOp, go_sem, h5]
  · refine stepOk_val fun a w' hle hk hp => ⟨wanted_of rfl rfl (hp 13 _ rfl rfl), .int .i64 27, w', ?_, Below.refl _ _, rfl⟩
    have h5 := ev (kept_eval (s := 2) hk rfl)
    simp at h5
    clear hp hk hle
    simp [execOp, go_sem, h5]
  · refine stepOk_val fun a w' hle hk hp => ⟨wanted_of rfl rfl (hp 13 _ rfl rfl), .slice (some ⟨w.heap.size, 0, none⟩) 27 31, w', ?_, Below.refl _ _, rfl⟩
    have g0 := ev (show a.eval (.tmp 43) = .slice (some ⟨w.heap.size, 0, none⟩) 31 31 from hp 17 _ rfl rfl)
    have g1 := ev (show a.eval (.tmp 44) = .int .i64 27 from hp 18 _ rfl rfl)
    clear hp hk hle
    simp [execOp, go_sem, g0, g1]
  · refine stepOk_val fun a w' hle hk hp => ⟨wanted_of rfl rfl (hp 13 _ rfl rfl), .string ⟨L.toArray⟩, w', ?_, Below.refl _ _, rfl⟩
    have g0 := ev (show a.eval (.tmp 45) = .slice (some ⟨w.heap.size, 0, none⟩) 27 31 from hp 19 _ rfl rfl)
    obtain ⟨av, cv, e9, -, -, -, hcv⟩ := HT2.out.below (of_drew hle)
    injection e9 with e9 e8 e7
    subst e9
    have kv := conv_bytes (P := Tryd.prog) (cap := 31) Tryd.underlying26 Tryd.underlying5 Tryd.underlying9 (n := 27) HLn.out hcv
    clear hp hk hle
    simp [execOp, g0, go_sem, kv]
  · refine stepOk_val fun a w' hle hk hp => ⟨wanted_of rfl rfl (hp 13 _ rfl rfl), .bool true, w', ?_, Below.refl _ _, rfl⟩
    have g0 := ev (show a.eval (.tmp 42) = .string ⟨L.toArray⟩ from hp 16 _ rfl rfl)
    have g1 := ev (show a.eval (.tmp 46) = .string ⟨L.toArray⟩ from hp 20 _ rfl rfl)
    clear hp hk hle
    simp [execOp, go_sem, g0, g1, e2]
  · refine stepOk_val fun a w' hle hk hp => ⟨rfl, .bool true, w', ?_, Below.refl _ _, rfl⟩
    have g0 := ev (show a.eval (.tmp 39) = .bool true from hp 13 _ rfl rfl)
    have g1 := ev (show a.eval (.tmp 47) = .bool true from hp 21 _ rfl rfl)
    clear hp hk hle
    simp [execOp, go_sem, g0, g1]
  · refine stepOk_val fun a w' hle hk hp => ⟨rfl, .bool true, w', ?_, Below.refl _ _, rfl⟩
    have g0 := ev (show a.eval (.tmp 48) = .bool true from hp 22 _ rfl rfl)
    clear hp hk hle
    simp [execOp, go_sem, g0]
  · intro a w' hle hk hp
    have h8 : a.tmps.getD 0 undef = .bool true := hp 23 _ rfl
    have HBc := of_drew hle
    have hd : a.defers = [] := hk.1
    have hfin : bodyPost Tryd.prog Tryd.f7 (fun e w'' => e = .returned (.bool true) ∧ Below w.heap.size w w'') .ret a w' := bodyPost_ret ((results_tmp rfl _ _ _).trans (by rw [h8])) hd ⟨rfl, Below.self_trans HB2.out HBc⟩
    clear hp hk hle h8
    simp only [Exit.then]
    apply_assumption
    go_wp2
    exact hfin
end Go.Proofs.YtglljdhhgmgbgaaDoor
