/- The end of a head: End of package head; end and End of the reference. -/
import Derived.Test.YtglljdhhgmgbgaaDoorPA
import Derived.Test.YtglljdhhgmgbgaaDoorEnv
import Derived.Test.YtglljdhhgmgbgaaDoorField
import Derived.Test.YtglljdhhgmgbgaaDoorPB
import Derived.Deep.DeepCutAuto
namespace Go.Proofs.YtglljdhhgmgbgaaDoor
open Go.RowKit Go.Own
set_option linter.unusedVariables false
set_option maxHeartbeats 2000000

theorem bytesOf_map (b : List UInt8) : Lib.bytesOf (b.map fun c => (c.toNat : Int)) = b := by
  unfold Lib.bytesOf
  rw [List.map_map]
  induction b with
  | nil => rfl
  | cons c b ih => rw [List.map_cons, ih]; simp
theorem bindex_calls (v1 v2 : Value) (b : List UInt8) (w : World) (hE : Env w) (H1 : RdB w v1 b) (H2 : RdB w v2 crlf2) (hb : b.length < 4294967281) :
    Calls Tryd.prog 28 #[v1, v2] w fun e w' => e = .returned (.int .i64 (Lib.index b crlf2)) ∧ Below w.heap.size w w' := by
  obtain ⟨m, hm⟩ := hE.max
  obtain ⟨a1, c1, rfl, h1, h2, h3, h4⟩ := H1
  obtain ⟨a2, c2, rfl, g1, g2, g3, g4⟩ := H2
  have ha2 : ∃ ad, a2 = some ad := by
    obtain ⟨b0, off, e, -⟩ := g4 0 (by decide)
    exact ⟨_, e⟩
  obtain ⟨ad2, rfl⟩ := ha2
  have cells : ∀ (ad : Addr) (l : List UInt8), RdC w (some ad) (bytesV l) → ∀ i, i < l.length → w.cell? (ad.add i) = some (.int .u8 ((l.map fun c => (c.toNat : Int)).getD i 0)) := by
    intro ad l h i hi
    obtain ⟨b0, off, e, hc⟩ := h.byte i hi
    obtain rfl := Option.some.inj e
    rw [Addr.add_lit, hc]
    simp [List.getD_eq_getElem?_getD, hi]
  have rng : ∀ (l : List UInt8), ∀ x ∈ l.map (fun c => (c.toNat : Int)), 0 ≤ x ∧ x < 256 := by
    intro l x hx
    obtain ⟨c, -, rfl⟩ := List.mem_map.1 hx
    have := c.toNat_lt
    omega
  cases a1 with
  | none =>
    obtain rfl := h3 rfl
    have hz : b = [] := List.eq_nil_of_length_eq_zero (by omega)
    subst hz
    refine (Tryd.bytes_Index_nil (some ad2) 4 c2 w (by omega) (by omega)).mono ?_
    rintro e w' ⟨rfl, rfl⟩
    exact ⟨rfl, Below.refl _ _⟩
  | some ad1 =>
    refine (Tryd.bytes_Index_at ad1 ad2 b.length c1 4 c2 (b.map fun c => (c.toNat : Int)) (crlf2.map fun c => (c.toNat : Int)) m w (List.length_map ..) rfl (rng _) (rng _) (cells _ _ h4) (fun i hi => cells _ _ g4 i hi) h1 hb (by omega) hm).mono ?_
    rintro e w' ⟨rfl, q, rfl⟩
    rw [bytesOf_map, bytesOf_map]
    exact ⟨rfl, below_drewN (Below.refl _ _) q⟩

theorem RdC_sub {w : World} {a : Option Addr} {xs : List Value} (h : RdC w a xs) (j n : Nat) : RdC w (a.map fun x => x.add j) ((xs.drop j).take n) := by
  intro k hk
  rw [List.length_take, List.length_drop] at hk
  obtain ⟨b, off, rfl, hc⟩ := h (j + k) (by omega)
  refine ⟨b, off + j, by rw [Option.map_some, Addr.add_lit], ?_⟩
  rw [Nat.add_assoc, hc]
  simp
/-- a conversion of bytes to the same type marks the block, and nothing more -/
theorem run_convert_mark {P : Program} (w : World) (t e : TypeId) (cs : Array Value) (T : TypeId) (n c : Nat) (ht : P.underlying t = some (.slice e)) (he : P.underlying e = some (.int .u8)) :
    (convert t t (.slice (some ⟨w.heap.size, 0, none⟩) n c)).run P (w.alloc (.cells cs T)) = .ok (.slice (some ⟨w.heap.size, 0, none⟩) n c) (w.alloc (.cells cs T (cs.size, cs.size + 1))) := by
  have hsh : (w.alloc (.cells cs T)).shape? w.heap.size = some (T, cs.size) := by
    have : (w.alloc (.cells cs T)).heap[w.heap.size]? = some (.cells cs T) := heap_alloc_new w _
    unfold World.shape?
    rw [this]
  have hfr : (w.alloc (.cells cs T)).freeze ⟨w.heap.size, cs.size, none⟩ 1 = w.alloc (.cells cs T (cs.size, cs.size + 1)) := by
    have hm : ∀ (a : Array Obj) (x : Obj) (f : Obj → Obj), (a.push x).modify a.size f = a.push (f x) := by
      intro a x f
      apply Array.ext
      · simp
      · intro i h1 h2
        simp only [Array.getElem_modify, Array.getElem_push]
        by_cases h : a.size = i
        · subst h
          simp
        · have hi : i < a.size := by simp at h1; omega
          simp [h, hi]
    unfold World.freeze
    rw [if_neg (by decide)]
    show ({ w.alloc (.cells cs T) with heap := (w.heap.push (.cells cs T)).modify w.heap.size _ } : World) = _
    rw [hm]
    rfl
  simp [convert, run_underlying ht, run_underlying he, markStringish, hsh, hfr]

theorem endV_yes {b : List UInt8} {most : Int} {i : Nat} (h : endP b = ((i + 4 : Nat) : Int)) (hm : (i : Int) + 4 ≤ most) : endV b most = ((i : Int) + 4, 0) := by
  unfold endV; rw [h, if_pos (by omega)]; simp
theorem endV_limit {b : List UInt8} {most : Int} (h : ¬ (0 ≤ endP b ∧ endP b ≤ most)) (hm : most ≤ (b.length : Int)) : endV b most = (0, 3) := by
  unfold endV; rw [if_neg h, if_pos hm]
theorem endV_more {b : List UInt8} {most : Int} (h : ¬ (0 ≤ endP b ∧ endP b ≤ most)) (hm : ¬ most ≤ (b.length : Int)) : endV b most = (0, 4) := by
  unfold endV; rw [if_neg h, if_neg hm]

set_option maxRecDepth 100000 in
theorem hend_calls (v : Value) (b : List UInt8) (most : Int) (w : World) (hE : Env w) (H : RdB w v b) (hb : b.length < 4294967281) :
    Calls Tryd.prog 15 #[v, .int .i64 most] w fun e w' => e = .returned (.tuple #[.int .i64 (endV b most).1, .int .i64 (endV b most).2]) ∧ Below w.heap.size w w' := by
  have hcv := run_convert_mark (P := Tryd.prog) w 26 5 #[.int .u8 13, .int .u8 10, .int .u8 13, .int .u8 10] 5 4 4 Tryd.underlying26 Tryd.underlying5
  have HB0 := (Below.refl w.heap.size w).alloc (Nat.le_refl _) (.cells #[.int .u8 13, .int .u8 10, .int .u8 13, .int .u8 10] 5 (4, 5))
  have HI := Lib.hid (bindex_calls v (.slice (some ⟨w.heap.size, 0, none⟩) 4 4) b _ (hE.below HB0) (H.below HB0) (RdB_of rfl (by decide) (by simp [maxLen]) (by simp) (RdC_new w (bytesV crlf2) _ (4, 5))) hb)
  have hcs := Lib.hid (endP_cases b)
  have HY := Lib.hid (fun i h hm => endV_yes (b := b) (most := most) (i := i) h hm)
  have HL := Lib.hid (fun h hm => endV_limit (b := b) (most := most) h hm)
  have HM := Lib.hid (fun h hm => endV_more (b := b) (most := most) h hm)
  obtain ⟨a, cap, rfl, h1, h2, h3, h4⟩ := H
  have HBL := Lib.hid hb
  clear h4 hb h1 h2 h3
  rcases hcs.out with ⟨hp, hi⟩ | ⟨i, hp, hi, hr⟩
  · rw [hi] at HI
    have hno : ¬ (0 ≤ endP b ∧ endP b ≤ most) := by omega
    by_cases hm : most ≤ (b.length : Int)
    · have HR := Lib.hid (HL.out hno hm)
      clear hp hi hcs HY HL HM hno
      go_enter Tryd.func15, Tryd.ntmps15
      go_wp2_with fail
      refine HI.out.mono ?_
      rintro e w1 ⟨rfl, hb1⟩
      have hb2 := Below.self_trans HB0 hb1
      clear hb1
      go_wp2
      go_ret2
      exact ⟨by rw [HR.out]; rfl, hb2⟩
    · have HR := Lib.hid (HM.out hno hm)
      clear hp hi hcs HY HL HM hno
      go_enter Tryd.func15, Tryd.ntmps15
      go_wp2_with fail
      refine HI.out.mono ?_
      rintro e w1 ⟨rfl, hb1⟩
      have hb2 := Below.self_trans HB0 hb1
      clear hb1
      go_wp2
      go_ret2
      exact ⟨by rw [HR.out]; rfl, hb2⟩
  · rw [hi] at HI
    have hi63 : (i : Int) + 4 ≤ 9000000000 := by have := HBL.out; omega
    clear HBL
    by_cases hy : (i : Int) + 4 ≤ most
    · have HR := Lib.hid (HY.out i hp hy)
      clear hp hi hcs HY HL HM
      go_enter Tryd.func15, Tryd.ntmps15
      go_wp2_with fail
      refine HI.out.mono ?_
      rintro e w1 ⟨rfl, hb1⟩
      have hb2 := Below.self_trans HB0 hb1
      clear hb1
      go_wp2
      go_ret2
      exact ⟨by rw [HR.out]; rfl, hb2⟩
    · have hno : ¬ (0 ≤ endP b ∧ endP b ≤ most) := by omega
      have hm : most ≤ (b.length : Int) := by omega
      have HR := Lib.hid (HL.out hno hm)
      have HM2 := Lib.hid hm
      have HY2 := Lib.hid (show ¬ (i : Int) + 4 ≤ most by omega)
      clear hp hi hcs HY HL HM hno hr hm hy
      go_enter Tryd.func15, Tryd.ntmps15
      go_wp2_with fail
      refine HI.out.mono ?_
      rintro e w1 ⟨rfl, hb1⟩
      have hb2 := Below.self_trans HB0 hb1
      have hm : decide (most ≤ (b.length : Int)) = true := decide_eq_true HM2.out
      have hy2 : decide ((i : Int) + 4 ≤ most) = false := decide_eq_false (by have := HY2.out; omega)
      clear HM2 HY2
      clear hb1
      go_wp2
      go_ret2
      exact ⟨by rw [HR.out]; rfl, hb2⟩

/-! ### the reference -/
theorem endV_in {b : List UInt8} {most : Int} (h : 0 ≤ endP b ∧ endP b ≤ most) : endV b most = (endP b, 0) := by
  unfold endV; rw [if_pos h]
end Go.Proofs.YtglljdhhgmgbgaaDoor