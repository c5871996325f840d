/- The layer-14 laws: awake, CookieID's core. -/
import Derived.Test.YtffllobpaemlgaaDoorCookie
import Derived.Test.YtffllobpaemlgaaDoorBelowQ
import Derived.Lib.SlBytesConst
namespace Go.Proofs.YtffllobpaemlgaaDoor
open Go.RowKit Go.Own
set_option linter.unusedVariables false
set_option maxHeartbeats 1000000

theorem ck1 : pairsS (valuesS [⟨(⟨#[99, 111, 111, 107, 105, 101]⟩ : ByteArray), (⟨#[97, 61, 49, 59, 32, 98, 59, 32, 99, 61, 120, 61, 121]⟩ : ByteArray)⟩] cookieS) = [⟨(⟨#[97]⟩ : ByteArray), (⟨#[49]⟩ : ByteArray)⟩, ⟨(⟨#[99]⟩ : ByteArray), (⟨#[120, 61, 121]⟩ : ByteArray)⟩] := by decide +kernel
theorem ck2 : idB (⟨#[48, 49, 50, 51, 52, 53, 54, 55, 56, 57, 97, 98, 99, 100, 101, 102]⟩ : ByteArray) = true := by decide +kernel
theorem ck3 : idB (⟨#[48, 49, 50, 51, 52, 53, 54, 55, 56, 57, 97, 98, 99, 100, 101, 70]⟩ : ByteArray) = false := by decide +kernel

theorem awake14_calls (w : World) (hE : Env w) : Calls Tryd.prog 13 #[] w fun e w' => e = .returned (.bool true) ∧ Below w.heap.size w w' := by
  go_enter Tryd.func13, Tryd.ntmps13
  go_wp2_with fail
  refine (pairs_calls _ [⟨(⟨#[99, 111, 111, 107, 105, 101]⟩ : ByteArray), (⟨#[97, 61, 49, 59, 32, 98, 59, 32, 99, 61, 120, 61, 121]⟩ : ByteArray)⟩] _ (hE.below ((Below.refl _ _).alloc (Nat.le_refl _) _)) (rdf_new' w [⟨(⟨#[99, 111, 111, 107, 105, 101]⟩ : ByteArray), (⟨#[97, 61, 49, 59, 32, 98, 59, 32, 99, 61, 120, 61, 121]⟩ : ByteArray)⟩] _ _ _ rfl rfl rfl (by decide)) (by decide +kernel)).mono ?_
  rintro e w1 ⟨⟨v, rfl, hown⟩, hb1⟩
  have HB1 := kept_below hb1
  rw [ck1] at hown
  have hr := hown.rd
  obtain ⟨a, cap, rfl, hlc, hcm, -, hc⟩ := hr
  obtain ⟨b, off, rfl, c0, c1⟩ := hc.fld 0 (by decide)
  obtain ⟨c2, c3⟩ := RdC.fldAt hc 1 (by decide)
  simp only [Nat.zero_mul, Nat.one_mul, Nat.add_zero, List.getElem_cons_zero, List.getElem_cons_succ] at c0 c1 c2 c3
  unfold maxLen at hcm
  clear hb1 hown hc
  go_wp2_with fail
  refine (cid_calls _ _ (by decide)).mono ?_
  rintro e w2 ⟨rfl, hb2⟩
  rw [ck2]
  have HB2 := Below.self_trans HB1 hb2
  clear hb2 c0 c1 c2 c3
  go_wp2_with fail
  refine (cid_calls _ _ (by decide)).mono ?_
  rintro e w3 ⟨rfl, hb3⟩
  rw [ck3]
  have HB3 := Below.self_trans HB2 hb3
  go_wp2
  go_ret
  exact ⟨rfl, HB3⟩

theorem mut_mark (w : World) (cs : List Value) (T : TypeId) (n : Nat) (hn : cs.length ≤ n) : MutC (w.alloc (.cells cs.toArray T (n, n + 1))) w.heap.size cs := by
  intro k hk
  refine ⟨(World.cell?_alloc_mark w cs.toArray T (n, n + 1) k).trans (by simp [hk]), (World.frozen?_alloc_mark w cs.toArray T n (n + 1) k).trans ?_⟩
  simp only [Bool.and_eq_false_iff, decide_eq_false_iff_not]
  omega

def idBytes : List UInt8 := [48, 48, 102, 49, 101, 50, 100, 51, 99, 52, 98, 53, 97, 54, 57, 55]
theorem idBytes_lit : (#[Value.int .u8 48, Value.int .u8 48, Value.int .u8 102, Value.int .u8 49, Value.int .u8 101, Value.int .u8 50, Value.int .u8 100, Value.int .u8 51, Value.int .u8 99, Value.int .u8 52, Value.int .u8 98, Value.int .u8 53, Value.int .u8 97, Value.int .u8 54, Value.int .u8 57, Value.int .u8 55] : Array Value) = (bytesV idBytes).toArray := by kernel_rfl
theorem cookieID_core (s : ByteArray) (vb : Value) (raw : List UInt8) (at0 : Int) (c : UInt8) (w : World) (hE : Env w) (hs : s.size ≤ 1000000000) (Hb : RdB w vb raw) (hat : In64 at0) :
    Calls Tryd.prog 3 #[.string s, vb, .int .i64 at0, .int .u8 (c.toNat : Int)] w fun e w' => e = .returned (.bool true) ∧ Below w.heap.size w w' := by
  obtain ⟨a, cap, rfl, hlc, hcm, hcn, hc⟩ := Hb
  unfold maxLen at hcm
  obtain ⟨b1, b2⟩ := within_bd at0 16 (by omega)
  obtain ⟨k, hk⟩ := Int.eq_ofNat_of_zero_le b1
  rw [hk] at b2
  have hkN : k < 16 := by omega
  have hkx : k < (bytesV idBytes).length := hkN
  have hmut := mut_mark w (bytesV idBytes) 5 16 (Nat.le_refl _)
  obtain ⟨m0, m1⟩ := hmut k hkx
  have hmut2 := hmut.set k hkx (.int .u8 (c.toNat : Int))
  have hbv : (bytesV idBytes).set k (.int .u8 (c.toNat : Int)) = bytesV (idBytes.set k c) := by rw [bytesV, bytesV, List.map_set]; rfl
  rw [hbv] at hmut2
  have hrd := hmut2.rd
  have hK := Lib.hid hk
  generalize (bytesV idBytes)[k] = u0 at m0
  have HB0 : Below w.heap.size w ((w.alloc (.cells (bytesV idBytes).toArray 5 (16, 17))).setCell ⟨w.heap.size, k, none⟩ (.int .u8 (c.toNat : Int))) := ((Below.refl _ _).alloc (Nat.le_refl _) _).setCell (p := ⟨w.heap.size, k, none⟩) (Nat.le_refl _) _
  clear hmut hmut2 hbv hk b1
  have kc := fun (w : World) (C : Array Value) (n c : Nat) => Lib.run_convert_bytes_const (P := Tryd.prog) w 22 5 C n c Tryd.underlying22 Tryd.underlying5
  go_enter Tryd.func3, Tryd.ntmps3
  go_wp2_with fail
  refine (within_calls at0 16 _ hat (by omega) (by omega)).mono ?_
  rintro e w1 ⟨rfl, rfl⟩
  rw [hK.out, idBytes_lit]
  clear kc
  go_wp2_with fail
  refine (short_calls a raw.length cap 20 _ hlc hcm (by omega)).mono ?_
  rintro e w1 ⟨rfl, rfl⟩
  have hcR := hc.below HB0
  have hE0 := hE.below HB0
  generalize ((w.alloc (.cells (bytesV idBytes).toArray 5 (16, 17))).setCell ⟨w.heap.size, k, none⟩ (.int .u8 (c.toNat : Int))) = w1 at *
  have hz : min raw.length 20 ≤ 20 := Nat.min_le_right _ _
  have hrr : RdC w1 a (bytesV (raw.take 20)) := by
    have := hcR.take 20
    simpa [bytesV, List.map_take] using this
  clear m0 m1
  go_wp2_with (refine wpList_bytesstr rfl 22 9 _ rfl _ _ _ rfl 5 Tryd.underlying22 Tryd.underlying5 Tryd.underlying9 (raw.take 20) (by rw [List.length_take, Nat.min_comm]) hrr ?_)
  have ht : (⟨(raw.take 20).toArray⟩ : ByteArray).size ≤ 20 := by show (raw.take 20).toArray.size ≤ 20; simp; omega
  generalize (⟨(raw.take 20).toArray⟩ : ByteArray) = t at ht ⊢
  have hcx := After.conv (P := Tryd.prog) (cap := 16) Tryd.underlying22 Tryd.underlying5 Tryd.underlying9 (n := 16) (by simp [idBytes]) hrd
  have hu : (⟨(idBytes.set k c).toArray⟩ : ByteArray).size = 16 := by show (idBytes.set k c).toArray.size = 16; simp [idBytes]
  have hu2 : (⟨(idBytes.set k c).toArray⟩ : ByteArray).size ≤ maxLen := by rw [hu]; decide
  clear hu
  generalize (⟨(idBytes.set k c).toArray⟩ : ByteArray) = u at hcx hu2 ⊢
  have hs2 : s.size ≤ maxLen := by simp [maxLen]; omega
  have ht2 : t.size ≤ maxLen := by simp [maxLen]; omega
  have ht3 : t.size ≤ 1000000000 := by omega
  have hEx : ∀ x : After w1, Env x.now := fun x => hE0.below x.h
  clear hrr hc hcR hE hrd hz ht
  go_wp2_with fail
  refine wp_region_below (by kernel_rfl) (by kernel_rfl) ?_
  repeat (go_big_quiet_step ((first
    | (go_at_call 9; exact After.call (cid_calls _ _ (by assumption)))
    | (go_at_call 10; exact After.same (refID_calls _ _ (by assumption)))
    | (go_at_call 11; exact After.call (issue_calls _ _ _ hs ht3))
    | (go_at_call 12; exact After.call (refIssue_calls _ _ _ hs ht3))
    | (go_at_call 13; exact After.call (awake14_calls _ (hEx _))))))
  refine wpQuiet_nil ?_
  rintro w9 ⟨x, rfl⟩
  have HB9 := Below.self_trans HB0 x.h
  clear hEx hcx
  go_wp2
  go_ret
  exact ⟨rfl, HB9⟩
end Go.Proofs.YtffllobpaemlgaaDoor
