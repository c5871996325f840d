/- The cores of the layer-06 laws: FieldParse. -/
import Derived.Test.YtaggaldpigeamaaL06
namespace Go.Proofs.Ytaggaldpigeamaa
open Go.RowKit Go.Own
set_option linter.unusedVariables false
set_option maxHeartbeats 2000000

theorem parseF_size {s : ByteArray} {f : Fld} (h : parseF s = some f) : f.name.size ≤ s.size ∧ f.val.size ≤ s.size := by
  unfold parseF at h
  split at h
  · simp only at h
    split at h
    · injection h with h
      rw [← h]
      refine ⟨?_, ?_⟩
      · show (bs (before 58 (bl s))).size ≤ _
        rw [bs_size, ← bl_length]; exact before_len _ _
      · refine Nat.le_trans (trimB_size _) ?_
        rw [bs_size, ← bl_length]; exact behind_len _ _
    · cases h
  · cases h
theorem Below.le {b : Nat} {w w' : World} (h : Below b w w') : w.heap.size ≤ w'.heap.size := h.size

theorem src_new (w : World) (a : Option Addr) (l : List Int) (cap : Nat) (h : RdC w a (intsV l)) (h3 : l.length ≤ cap) (h4 : cap ≤ maxLen) (h5 : a = none → cap = 0) (h8 : ∀ x ∈ l, In64 x) :
    Src (w.alloc (.cells #[.slice a l.length cap, .int .i64 0] 29)) w.heap.size l := by
  refine ⟨a, cap, 0, Array.getElem?_push_size, Nat.zero_le _, h3, h4, h5, h.below ((Below.refl _ _).alloc (Nat.le_refl _) _), ?_, h8⟩
  cases l with
  | nil => exact Or.inl rfl
  | cons x l =>
    right
    intro b hb
    obtain ⟨b', off, ha, hc⟩ := h 0 (by simp [intsV])
    rw [ha] at hb
    have := World.block_lt_of_cell? w _ hc
    simp [blk] at hb
    simp at this
    omega

theorem below_new {w w' : World} {o : Obj} (hg : (w.alloc o).grownBy w' (some w.heap.size)) : Below w.heap.size w w' :=
  ⟨hg.os, hg.tape, hg.output, by have := hg.size; simp at this; omega, fun k hk => (hg.block k (by simp; omega) (by intro h; injection h with h; omega)).trans (Array.getElem?_push_lt hk ▸ (Array.getElem?_eq_getElem hk).symm)⟩

theorem fieldParse_core (line : ByteArray) (vr : Value) (raw : List UInt8) (vl : Value) (l : List Int) (at0 : Int) (c : UInt8) (wild : Int) (w : World) (hE : Env w) (h1 : line.size ≤ 1048576) (h2 : raw.length ≤ 1048576) (Hr : RdB w vr raw) (Hl : RdI w vl l) (hat : In64 at0) (hw : In64 wild) :
    Calls Try.prog 3 #[.string line, vr, vl, .int .i64 at0, .int .u8 (c.toNat : Int), .int .i64 wild] w fun e w' => e = .returned (.bool true) ∧ Below w.heap.size w w' := by
  have HB0 := Below.refl w.heap.size w
  go_enter Try.func3, Try.ntmps3
  cases ht1 : (bits BinOp.and IntKind.i64 wild 1 == 1) with
  | true =>
    obtain ⟨a, cap, rfl, hlc, hcm, hcn, hc⟩ := Hr
    unfold maxLen at hcm
    have hz : min raw.length 200 ≤ 200 := Nat.min_le_right _ _
    go_wp2_with fail
    refine (short_calls a raw.length cap 200 _ hlc hcm (by omega)).mono ?_
    rintro e w1 ⟨rfl, rfl⟩
    have hrr : RdC w1 a (bytesV (raw.take 200)) := by
      have := hc.take 200
      simpa [bytesV, List.map_take] using this
    go_wp2_with (refine wpList_bytesstr rfl 22 9 _ rfl _ _ _ rfl 5 Try.underlying22 Try.underlying5 Try.underlying9 (raw.take 200) (by rw [List.length_take, Nat.min_comm]) hrr ?_)
    have hs : (⟨(raw.take 200).toArray⟩ : ByteArray).size ≤ 200 := by show (raw.take 200).toArray.size ≤ 200; simp; omega
    clear hrr
    generalize (⟨(raw.take 200).toArray⟩ : ByteArray) = s at hs ⊢
    cases hp : parseF (s) with
    | some f =>
      obtain ⟨hn, hv⟩ := parseF_size hp
      have hval := parseF_valid hp
      obtain ⟨n, v⟩ := f
      simp only at hn hv
      have hn2 : n.size ≤ maxLen := Nat.le_trans hn (by simp [maxLen]; omega)
      have hv2 : v.size ≤ maxLen := Nat.le_trans hv (by simp [maxLen]; omega)
      have HP : parseV (s) = .tuple #[.agg #[.string n, .string v], .int .i64 0] := by unfold parseV; rw [hp]; rfl
      clear hp hn hv
      go_wp2_with fail
      refine (fparse_calls _ _ hE (by omega)).mono ?_
      rintro e w2 ⟨rfl, hb2⟩
      rw [HP]
      have HB2 := Below.self_trans HB0 hb2
      clear hb2
      go_wp2_with fail
      refine (refParse_calls _ _ (by omega)).mono ?_
      rintro e w3 ⟨rfl, hb3⟩
      rw [HP]
      clear HP
      have k0 := (keptN hb3 0).1
      have k1 := (keptN hb3 1).1
      have hlt3 := kept_lt hb3
      have hbw := kept_below hb3
      have HB3 := Below.self_trans HB2 hbw
      clear hb3 hbw
      go_wp2_with fail
      refine (valid_calls ⟨n, v⟩ _ hn2 hv2).mono ?_
      rintro e w4 ⟨rfl, hb4⟩
      rw [hval]
      have HB4 := Below.self_trans HB3 (kept_below hb4)
      clear hb4 k0 k1
      go_wp2_with fail
      refine (awake06_calls _ (hE.below HB4)).mono ?_
      rintro e w5 ⟨rfl, hb5⟩
      have HB5 := Below.self_trans HB4 hb5
      go_wp2
      go_ret
      exact ⟨rfl, HB5⟩
    | none =>
      have HP : parseV (s) = .tuple #[.agg #[.string .empty, .string .empty], .int .i64 2] := by unfold parseV; rw [hp]
      clear hp
      go_wp2_with fail
      refine (fparse_calls _ _ hE (by omega)).mono ?_
      rintro e w2 ⟨rfl, hb2⟩
      rw [HP]
      have HB2 := Below.self_trans HB0 hb2
      clear hb2
      go_wp2_with fail
      refine (refParse_calls _ _ (by omega)).mono ?_
      rintro e w3 ⟨rfl, hb3⟩
      rw [HP]
      clear HP
      have k0 := (keptN hb3 0).1
      have k1 := (keptN hb3 1).1
      have hlt3 := kept_lt hb3
      have hbw := kept_below hb3
      have HB3 := Below.self_trans HB2 hbw
      clear hb3 hbw
      have HB4 := HB3.alloc (Below.le HB3) (.cells #[.string ByteArray.empty, .string ByteArray.empty] 26)
      go_wp2_with fail
      refine (awake06_calls _ (hE.below HB4)).mono ?_
      rintro e w5 ⟨rfl, hb5⟩
      have HB5 := Below.self_trans HB4 hb5
      go_wp2
      go_ret
      exact ⟨rfl, HB5⟩
  | false =>
    cases ht2 : (bits BinOp.and IntKind.i64 wild 2 == 2) with
    | false =>
      cases hp : parseF (line) with
      | some f =>
        obtain ⟨hn, hv⟩ := parseF_size hp
        have hval := parseF_valid hp
        obtain ⟨n, v⟩ := f
        simp only at hn hv
        have hn2 : n.size ≤ maxLen := Nat.le_trans hn (by simp [maxLen]; omega)
        have hv2 : v.size ≤ maxLen := Nat.le_trans hv (by simp [maxLen]; omega)
        have HP : parseV (line) = .tuple #[.agg #[.string n, .string v], .int .i64 0] := by unfold parseV; rw [hp]; rfl
        clear hp hn hv
        go_wp2_with fail
        refine (fparse_calls _ _ hE (by omega)).mono ?_
        rintro e w2 ⟨rfl, hb2⟩
        rw [HP]
        have HB2 := Below.self_trans HB0 hb2
        clear hb2
        go_wp2_with fail
        refine (refParse_calls _ _ (by omega)).mono ?_
        rintro e w3 ⟨rfl, hb3⟩
        rw [HP]
        clear HP
        have k0 := (keptN hb3 0).1
        have k1 := (keptN hb3 1).1
        have hlt3 := kept_lt hb3
        have hbw := kept_below hb3
        have HB3 := Below.self_trans HB2 hbw
        clear hb3 hbw
        go_wp2_with fail
        refine (valid_calls ⟨n, v⟩ _ hn2 hv2).mono ?_
        rintro e w4 ⟨rfl, hb4⟩
        rw [hval]
        have HB4 := Below.self_trans HB3 (kept_below hb4)
        clear hb4 k0 k1
        go_wp2_with fail
        refine (awake06_calls _ (hE.below HB4)).mono ?_
        rintro e w5 ⟨rfl, hb5⟩
        have HB5 := Below.self_trans HB4 hb5
        go_wp2
        go_ret
        exact ⟨rfl, HB5⟩
      | none =>
        have HP : parseV (line) = .tuple #[.agg #[.string .empty, .string .empty], .int .i64 2] := by unfold parseV; rw [hp]
        clear hp
        go_wp2_with fail
        refine (fparse_calls _ _ hE (by omega)).mono ?_
        rintro e w2 ⟨rfl, hb2⟩
        rw [HP]
        have HB2 := Below.self_trans HB0 hb2
        clear hb2
        go_wp2_with fail
        refine (refParse_calls _ _ (by omega)).mono ?_
        rintro e w3 ⟨rfl, hb3⟩
        rw [HP]
        clear HP
        have k0 := (keptN hb3 0).1
        have k1 := (keptN hb3 1).1
        have hlt3 := kept_lt hb3
        have hbw := kept_below hb3
        have HB3 := Below.self_trans HB2 hbw
        clear hb3 hbw
        have HB4 := HB3.alloc (Below.le HB3) (.cells #[.string ByteArray.empty, .string ByteArray.empty] 26)
        go_wp2_with fail
        refine (awake06_calls _ (hE.below HB4)).mono ?_
        rintro e w5 ⟨rfl, hb5⟩
        have HB5 := Below.self_trans HB4 hb5
        go_wp2
        go_ret
        exact ⟨rfl, HB5⟩
    | true =>
      obtain ⟨⟨a, cap, rfl, hlc, hcm, hcn, hc⟩, hin⟩ := Hl
      go_wp2_with fail
      refine (sfield_calls _ l _ (src_new w a l cap hc hlc hcm hcn hin)).mono ?_
      rintro e w1 ⟨⟨f, rfl, hf⟩, hg, -⟩
      have HB1 := below_new hg
      obtain ⟨-, hn, hv, -⟩ := hf
      clear hg
      go_wp2_with (refine wpList_strbytes_mut rfl 9 22 _ rfl _ rfl 5 Try.underlying9 Try.underlying22 Try.underlying5 ?_ ?_)
      case refine_2 => show (f.name ++ (⟨#[58]⟩ : ByteArray) ++ f.val).size ≤ 9223372036854775807; rw [ByteArray.size_append, ByteArray.size_append]; show f.name.size + 1 + f.val.size ≤ _; omega
      intro g capb w2 hb2 hg1 hg2 hc1 hc2 hmut
      have hN : f.name.size + 1 + f.val.size ≤ 44 := by omega
      have hlen : (f.name.data.toList ++ 58 :: f.val.data.toList).length = f.name.size + 1 + f.val.size := by rw [List.length_append, List.length_cons, ← size_toList, ← size_toList]; omega
      have HB2 := Below.self_trans HB1 (((Below.refl _ _).alloc (Nat.le_refl _) _).trans (hb2.mono (Nat.le_succ _)))
      have hgw : w.heap.size ≤ g := by have := HB1.size; omega
      have hpos : 0 < f.name.size + 1 + f.val.size := by omega
      clear hb2 hg1 hc
      generalize f.name.data.toList ++ 58 :: f.val.data.toList = xs at hmut hlen
      generalize f.name.size + 1 + f.val.size = N at hN hlen hc1 hpos ⊢
      go_wp2_with fail
      refine (within_calls at0 N w2 hat (by omega) (by omega)).mono ?_
      rintro e w3 ⟨rfl, rfl⟩
      obtain ⟨b1, b2⟩ := within_bd at0 (N : Int) (by omega)
      obtain ⟨k, hk⟩ := Int.eq_ofNat_of_zero_le b1
      rw [hk] at b2 ⊢
      have hkN : k < N := by omega
      have hkx : k < (bytesV xs).length := by rw [bytesV_length, hlen]; exact hkN
      obtain ⟨m0, m1⟩ := hmut k hkx
      have hmut2 := hmut.set k hkx (.int .u8 (c.toNat : Int))
      have hbv : (bytesV xs).set k (.int .u8 (c.toNat : Int)) = bytesV (xs.set k c) := by rw [bytesV, bytesV, List.map_set]; rfl
      rw [hbv] at hmut2
      have hrd := hmut2.rd
      have HB3 : Below w.heap.size w (w2.setCell ⟨g, k, none⟩ (.int .u8 (c.toNat : Int))) := HB2.setCell hgw _
      have hs : (⟨(xs.set k c).toArray⟩ : ByteArray).size ≤ 1048576 := by show (xs.set k c).toArray.size ≤ _; simp; omega
      have hsl := Lib.hid (show N = (xs.set k c).length by rw [List.length_set, hlen])
      generalize (bytesV xs)[k] = u0 at m0
      clear hmut hmut2 hbv hkx hk b1 b2 hlen
      go_wp2_with (refine wpList_bytesstr rfl 22 9 _ rfl _ _ _ rfl 5 Try.underlying22 Try.underlying5 Try.underlying9 (xs.set k c) hsl.out hrd ?_)
      clear hsl hrd
      generalize (⟨(xs.set k c).toArray⟩ : ByteArray) = s at hs ⊢
      generalize w2.setCell ⟨g, k, none⟩ (.int .u8 (c.toNat : Int)) = w4 at HB3 ⊢
      cases hp : parseF (s) with
      | some f =>
        obtain ⟨hn, hv⟩ := parseF_size hp
        have hval := parseF_valid hp
        obtain ⟨n, v⟩ := f
        simp only at hn hv
        have hn2 : n.size ≤ maxLen := Nat.le_trans hn (by simp [maxLen]; omega)
        have hv2 : v.size ≤ maxLen := Nat.le_trans hv (by simp [maxLen]; omega)
        have HP : parseV (s) = .tuple #[.agg #[.string n, .string v], .int .i64 0] := by unfold parseV; rw [hp]; rfl
        clear hp hn hv
        go_wp2_with fail
        refine (fparse_calls _ _ (hE.below HB3) (by omega)).mono ?_
        rintro e w2 ⟨rfl, hb2⟩
        rw [HP]
        have HB2 := Below.self_trans HB3 hb2
        clear hb2
        go_wp2_with fail
        refine (refParse_calls _ _ (by omega)).mono ?_
        rintro e w3 ⟨rfl, hb3⟩
        rw [HP]
        clear HP
        have k0 := (keptN hb3 0).1
        have k1 := (keptN hb3 1).1
        have hlt3 := kept_lt hb3
        have hbw := kept_below hb3
        have HB3 := Below.self_trans HB2 hbw
        clear hb3 hbw
        go_wp2_with fail
        refine (valid_calls ⟨n, v⟩ _ hn2 hv2).mono ?_
        rintro e w4 ⟨rfl, hb4⟩
        rw [hval]
        have HB4 := Below.self_trans HB3 (kept_below hb4)
        clear hb4 k0 k1
        go_wp2_with fail
        refine (awake06_calls _ (hE.below HB4)).mono ?_
        rintro e w5 ⟨rfl, hb5⟩
        have HB5 := Below.self_trans HB4 hb5
        go_wp2
        go_ret
        exact ⟨rfl, HB5⟩
      | none =>
        have HP : parseV (s) = .tuple #[.agg #[.string .empty, .string .empty], .int .i64 2] := by unfold parseV; rw [hp]
        clear hp
        go_wp2_with fail
        refine (fparse_calls _ _ (hE.below HB3) (by omega)).mono ?_
        rintro e w2 ⟨rfl, hb2⟩
        rw [HP]
        have HB2 := Below.self_trans HB3 hb2
        clear hb2
        go_wp2_with fail
        refine (refParse_calls _ _ (by omega)).mono ?_
        rintro e w3 ⟨rfl, hb3⟩
        rw [HP]
        clear HP
        have k0 := (keptN hb3 0).1
        have k1 := (keptN hb3 1).1
        have hlt3 := kept_lt hb3
        have hbw := kept_below hb3
        have HB3 := Below.self_trans HB2 hbw
        clear hb3 hbw
        have HB4 := HB3.alloc (Below.le HB3) (.cells #[.string ByteArray.empty, .string ByteArray.empty] 26)
        go_wp2_with fail
        refine (awake06_calls _ (hE.below HB4)).mono ?_
        rintro e w5 ⟨rfl, hb5⟩
        have HB5 := Below.self_trans HB4 hb5
        go_wp2
        go_ret
        exact ⟨rfl, HB5⟩
end Go.Proofs.Ytaggaldpigeamaa
