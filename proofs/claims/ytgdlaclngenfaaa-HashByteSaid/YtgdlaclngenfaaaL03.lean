/- The laws of the hash layer: HashWrite, HashSum, HashSeparates, HashByte: their walks. -/
import Derived.Test.YtgdlaclngenfaaaRows
import Derived.Test.YtgdlaclngenfaaaLib
import Derived.Test.YtgdlaclngenfaaaHash
import Derived.Lib.SlBytesConst
namespace Go.Proofs.Ytgdlaclngenfaaa
open Go.RowKit Go.Own

theorem info_u8 : (Try.prog.info? 5).map (fun i => (i.zero, i.size, i.bytes)) = some (some (.int .u8 0), 1, 1) := by kernel_rfl

theorem awake1 : hrun hstart [97] = 12638187200555641996 := by decide +kernel
theorem hrun_nil (h : Int) : hrun h [] = h := rfl
theorem awake2 : hsum [] = 14695981039346656037 := rfl

set_option maxHeartbeats 400000 in
theorem awake_calls (w : World) : Calls Try.prog 9 #[] w fun e w' => e = .returned (.bool true) ∧ Below w.heap.size w w' := by
  have kc := fun (w : World) (C : Array Value) (n c : Nat) => Lib.run_convert_bytes_const (P := Try.prog) w 23 5 C n c Try.underlying23 Try.underlying5
  go_enter Try.func9, Try.ntmps9
  go_wp2_with fail
  refine (hashStart_calls _).mono ?_
  rintro e w2 ⟨rfl, rfl⟩
  go_wp2_with fail
  refine (hashWrite_calls _ _ [97] _ (RdB_of rfl (Nat.le_refl _) (by simp [maxLen]) (by simp) (RdC_new _ [.int .u8 97] _ _))).mono ?_
  rintro e w2 ⟨rfl, rfl⟩
  rw [awake1]
  go_wp2_with fail
  refine (hashSum_calls _ [] _ (RdS_nil _) (by simp)).mono ?_
  rintro e w2 ⟨rfl, hb⟩
  rw [awake2]
  go_wp2
  go_ret
  exact ⟨rfl, ((Below.refl _ _).alloc (Nat.le_refl _) _).trans (hb.mono (by simp))⟩

set_option maxHeartbeats 400000 in
theorem hashWrite_core (h : Int) (va vb : Value) (x y : List UInt8) (w : World) (Hx : RdB w va x) (Hy : RdB w vb y) (hk : x.length + y.length ≤ 1048576) :
    Calls Try.prog 3 #[.int .u64 h, va, vb] w fun e w' => e = .returned (.bool true) ∧ Below w.heap.size w w' := by
  obtain ⟨a1, c1, rfl, h11, h12, h13, hr1⟩ := id Hx
  obtain ⟨a2, c2, rfl, h21, h22, h23, hr2⟩ := id Hy
  go_enter Try.func3, Try.ntmps3
  go_wp2_with (at_builtin; refine wpList_append_rd rfl (.tmp 9) (.tmp 10) 23 rfl w ((Below.refl _ _).alloc (Nat.le_refl _) _) 5 (.int .u8 0) 1 1 Try.underlying23 info_u8 rfl Nat.one_pos _ 0 0 [] rfl (World.ownsRow_lit w #[] 0 (Nat.le_refl _) (Nat.zero_le _) rfl) a1 x.length c1 (bytesV x) rfl (by rw [bytesV_length]; omega) h13 h11 (hr1.below ((Below.refl _ _).alloc (Nat.le_refl _) _)) (bytesV_one x) (by omega) (by simp [maxLen]; omega) ?_)
  intro a3 c3 w1 hb1 hown1 hg1
  go_wp2_with (at_builtin; refine wpList_append_rd rfl (.tmp 11) (.tmp 12) 23 rfl w hb1 5 (.int .u8 0) 1 1 Try.underlying23 info_u8 rfl Nat.one_pos a3 _ c3 _ rfl hown1 a2 y.length c2 (bytesV y) rfl (by rw [bytesV_length]; omega) h23 h21 (hr2.below hb1) (bytesV_one y) (by omega) (by simp [maxLen]; omega) ?_)
  intro a4 c4 w2 hb2 hown2 hg2
  have H4 : RdB w2 (.slice a4 (x.length + y.length) c4) (x ++ y) := by simpa [RdB, bytesV] using Rd_owned hown2
  clear hown1 hown2 hg1 hg2
  have Hx2 := Hx.below hb2
  have Hy2 := Hy.below hb2
  have C1 := hashWrite_calls h _ _ w2 H4
  rw [hrun_append] at C1
  go_wp2_with fail
  refine C1.mono ?_
  rintro e w3 ⟨rfl, rfl⟩
  clear C1
  go_wp2_with fail
  refine (refWrite_calls _ _ _ _ Hx2).mono ?_
  rintro e w3 ⟨rfl, rfl⟩
  go_wp2_with fail
  refine (refWrite_calls _ _ _ _ Hy2).mono ?_
  rintro e w3 ⟨rfl, rfl⟩
  go_wp2_with fail
  refine (hashWrite_calls _ _ _ _ Hx2).mono ?_
  rintro e w3 ⟨rfl, rfl⟩
  go_wp2_with fail
  refine (hashWrite_calls _ _ _ _ Hy2).mono ?_
  rintro e w3 ⟨rfl, rfl⟩
  go_wp2_with fail
  refine (hashWrite_calls _ _ _ _ (RdB_nil _)).mono ?_
  rintro e w3 ⟨rfl, rfl⟩
  rw [hrun_nil]
  go_wp2_with fail
  refine (awake_calls _).mono ?_
  rintro e w3 ⟨rfl, hb3⟩
  go_wp2
  go_ret
  exact ⟨rfl, Below.self_trans hb2 hb3⟩

set_option maxHeartbeats 400000 in
theorem hashSum_core (v : Value) (l : List ByteArray) (w : World) (Hl : RdS w v l) (hsz : ∀ s ∈ l, s.size ≤ maxLen) :
    Calls Try.prog 4 #[v] w fun e w' => e = .returned (.bool true) ∧ Below w.heap.size w w' := by
  obtain ⟨a1, c1, rfl, h11, h12, h13, hr1⟩ := id Hl
  by_cases hgt : 50 < l.length
  · have hl : (l.take 50).length = 50 := by simp; omega
    have Hl2 : RdS w (.slice a1 50 c1) (l.take 50) := by
      have := Rd_take hr1 50 h12 h13 (by omega)
      simpa [RdS, hl, strsV] using this
    go_enter Try.func4, Try.ntmps4
    go_wp2_with fail
    refine (hashSum_calls _ _ _ Hl2 (fun s hs => hsz s (List.mem_of_mem_take hs))).mono ?_
    rintro e w3 ⟨rfl, hb3⟩
    go_wp2_with fail
    refine (refSum_calls _ _ _ (Hl2.below hb3) (fun s hs => hsz s (List.mem_of_mem_take hs))).mono ?_
    rintro e w4 ⟨rfl, hb4⟩
    go_wp2_with fail
    refine (awake_calls _).mono ?_
    rintro e w5 ⟨rfl, hb5⟩
    go_wp2
    go_ret
    exact ⟨rfl, Below.self_trans (Below.self_trans hb3 hb4) hb5⟩
  · go_enter Try.func4, Try.ntmps4
    go_wp2_with fail
    refine (hashSum_calls _ _ _ Hl hsz).mono ?_
    rintro e w3 ⟨rfl, hb3⟩
    go_wp2_with fail
    refine (refSum_calls _ _ _ (Hl.below hb3) hsz).mono ?_
    rintro e w4 ⟨rfl, hb4⟩
    go_wp2_with fail
    refine (awake_calls _).mono ?_
    rintro e w5 ⟨rfl, hb5⟩
    go_wp2
    go_ret
    exact ⟨rfl, Below.self_trans (Below.self_trans hb3 hb4) hb5⟩

theorem mul_inj (A B : Nat) (ha : A < 18446744073709551616) (hb : B < 18446744073709551616) (h : (A * 1099511628211) % 18446744073709551616 = (B * 1099511628211) % 18446744073709551616) : A = B := by
  have e : ∀ X : Nat, X < 18446744073709551616 → (X * 1099511628211) % 18446744073709551616 * 14886173955864302971 % 18446744073709551616 = X := by
    intro X hX
    rw [Nat.mod_mul_mod, Nat.mul_assoc, show 1099511628211 * 14886173955864302971 = 1 + 18446744073709551616 * 887285111055 from rfl, Nat.mul_add, Nat.mul_one, Nat.mul_left_comm, Nat.add_mul_mod_self_left, Nat.mod_eq_of_lt hX]
  rw [← e A ha, ← e B hb, h]
theorem hstep_nat (h : Nat) (a : UInt8) (hh : h < 18446744073709551616) : hstep (h : Int) a = (((h ^^^ a.toNat) * 1099511628211 % 18446744073709551616 : Nat) : Int) := by
  have hc : a.toNat < 256 := a.toNat_lt
  have h1 : IntKind.u64.wrap (a.toNat : Int) = (a.toNat : Int) := by
    simp [IntKind.wrap, IntKind.bits, IntKind.signed]; omega
  unfold hstep
  rw [h1, u64_xor_nat h a.toNat hh (by omega)]
  simp [IntKind.wrap, IntKind.bits, IntKind.signed]
theorem hstep_inj (h : Nat) (a b : UInt8) (hh : h < 18446744073709551616) (e : hstep (h : Int) a = hstep (h : Int) b) : a = b := by
  rw [hstep_nat h a hh, hstep_nat h b hh] at e
  have ha : a.toNat < 256 := a.toNat_lt
  have hb : b.toNat < 256 := b.toNat_lt
  have lt : ∀ x : Nat, x < 256 → h ^^^ x < 18446744073709551616 := fun x hx => Nat.xor_lt_two_pow (n := 64) hh (by omega)
  have e2 := mul_inj _ _ (lt _ ha) (lt _ hb) (by exact_mod_cast e)
  have e3 : h ^^^ (h ^^^ a.toNat) = h ^^^ (h ^^^ b.toNat) := by rw [e2]
  rw [← Nat.xor_assoc, ← Nat.xor_assoc, Nat.xor_self, Nat.zero_xor, Nat.zero_xor] at e3
  exact UInt8.toNat_inj.1 e3
theorem hrun_one (h : Int) (a : UInt8) : hrun h [a] = hstep h a := rfl
theorem byte_eq (h : Int) (hw : (Lit.int .u64 h).wf = true) (a b : UInt8) : (hrun h [a] == hrun h [b]) = ((a.toNat : Int) == (b.toNat : Int)) := by
  have hr : 0 ≤ h ∧ h < 18446744073709551616 := by
    simp [Lit.wf, IntKind.min, IntKind.max, IntKind.signed, IntKind.bits] at hw; omega
  obtain ⟨n, rfl⟩ := Int.eq_ofNat_of_zero_le hr.1
  rw [hrun_one, hrun_one]
  by_cases e : a = b
  · subst e; simp
  · have e1 : hstep (n : Int) a ≠ hstep (n : Int) b := fun h => e (hstep_inj n a b (by omega) h)
    have e2 : (a.toNat : Int) ≠ (b.toNat : Int) := fun h => e (UInt8.toNat_inj.1 (by omega))
    rw [beq_eq_false_iff_ne.2 e1, beq_eq_false_iff_ne.2 e2]

set_option maxHeartbeats 400000 in
theorem hashByte_core (h : Int) (a b : UInt8) (w : World) (hw : (Lit.int .u64 h).wf = true) :
    Calls Try.prog 6 #[.int .u64 h, .int .u8 (a.toNat : Int), .int .u8 (b.toNat : Int)] w fun e w' => e = .returned (.bool true) ∧ Below w.heap.size w w' := by
  have heq := byte_eq h hw a b
  go_enter Try.func6, Try.ntmps6
  go_wp2_with fail
  refine (same_below (hashWrite_calls _ _ [a] _ (RdB_of rfl (Nat.le_refl _) (by simp [maxLen]) (by simp) (RdC_new _ [.int .u8 (a.toNat : Int)] _ _)))).mono ?_
  rintro e w3 ⟨rfl, hb3⟩
  have hb3' := ((Below.refl w.heap.size w).alloc (Nat.le_refl _) _).trans (hb3.mono (by simp))
  clear hb3
  go_wp2_with fail
  refine (same_below (hashWrite_calls _ _ [b] _ (RdB_of rfl (Nat.le_refl _) (by simp [maxLen]) (by simp) (RdC_new _ [.int .u8 (b.toNat : Int)] _ _)))).mono ?_
  rintro e w4 ⟨rfl, hb4⟩
  have hb4' := hb3'.trans (((Below.refl w3.heap.size w3).alloc (Nat.le_refl _) _).trans (hb4.mono (by simp)) |>.mono hb3'.size)
  clear hb4 hw
  go_wp2_with fail
  refine (awake_calls _).mono ?_
  rintro e w3 ⟨rfl, hb5⟩
  go_wp2
  go_ret
  exact ⟨rfl, Below.self_trans hb4' hb5⟩

theorem hsum_two (a b : ByteArray) : hsum [a, b] = hrun (hrun (hrun hstart (a.data.toList ++ [0])) b.data.toList) [0] := by
  simp [hsum, hrun_append]

set_option maxHeartbeats 400000 in
theorem hashSeparates_core (a b : ByteArray) (w : World) (ha : a.size ≤ 1048576) (hb : b.size ≤ 1048576) :
    Calls Try.prog 5 #[.string a, .string b] w fun e w' => e = .returned (.bool true) ∧ Below w.heap.size w w' := by
  have hsz : ∀ s ∈ [a, b], s.size ≤ maxLen := by
    intro s hs
    simp at hs
    rcases hs with rfl | rfl <;> (simp [maxLen]; omega)
  have e1 : (a ++ (⟨#[0]⟩ : ByteArray)).data.toList = a.data.toList ++ [0] := by simp
  have e2 : (a ++ (⟨#[0]⟩ : ByteArray)).size = (a.data.toList ++ [0]).length := by rw [← e1, size_toList]
  have e3 : a.size + 1 = (a.data.toList ++ [0]).length := by rw [List.length_append, ← size_toList]; rfl
  have hsz1 : (a ++ (⟨#[0]⟩ : ByteArray)).size ≤ maxLen := by
    rw [e2, List.length_append, ← size_toList]; simp [maxLen]; omega
  have hsz2 : b.size ≤ maxLen := by simp [maxLen]; omega
  have E3 := Lib.hid e3
  clear e1 e2 e3
  have C1 := fun w => hashSum_calls (.slice (some ⟨w.heap.size, 0, none⟩) 2 2) [a, b] _ ⟨_, 2, rfl, Nat.le_refl _, by simp [maxLen], by simp, RdC_new w [.string a, .string b] 9 (0, 0)⟩ hsz
  rw [hsum_two] at C1
  go_enter Try.func5, Try.ntmps5
  go_wp2_with fail
  refine (C1 _).mono ?_
  rintro e w3 ⟨rfl, hb3⟩
  have hb3' := ((Below.refl w.heap.size w).alloc (Nat.le_refl _) _).trans (hb3.mono (by simp))
  clear hb3 C1
  go_wp2_with fail
  refine (hashStart_calls _).mono ?_
  rintro e w2 ⟨rfl, rfl⟩
  go_wp2_with (refine wpList_strbytes rfl 9 23 _ rfl _ rfl 5 Try.underlying9 Try.underlying23 Try.underlying5 ?_ hsz1)
  intro ad c1 w1 hb1 hc1 hm1 hr1
  go_wp2_with fail
  refine (hashWrite_calls _ _ (a.data.toList ++ [0]) _ (RdB_of E3.out hc1 hm1 (by simp) hr1)).mono ?_
  rintro e w4 ⟨rfl, rfl⟩
  clear hr1 hc1 hm1
  go_wp2_with (refine wpList_strbytes rfl 9 23 _ rfl _ rfl 5 Try.underlying9 Try.underlying23 Try.underlying5 ?_ hsz2)
  intro ad2 c2 w2 hb2 hc2 hm2 hr2
  go_wp2_with fail
  refine (hashWrite_calls _ _ b.data.toList _ (RdB_of (size_toList _) hc2 hm2 (by simp) hr2)).mono ?_
  rintro e w4 ⟨rfl, rfl⟩
  clear hr2 hc2 hm2
  have hb4 := Below.self_trans (Below.self_trans hb3' hb1) hb2
  go_wp2_with fail
  refine (same_below (hashWrite_calls _ _ [0] _ (RdB_of rfl (Nat.le_refl _) (by simp [maxLen]) (by simp) (RdC_new _ [.int .u8 0] _ _)))).mono ?_
  rintro e w5 ⟨rfl, hb5⟩
  have hb5' := hb4.trans (((Below.refl w2.heap.size w2).alloc (Nat.le_refl _) _).trans (hb5.mono (by simp)) |>.mono hb4.size)
  clear hb5
  go_wp2_with fail
  refine (awake_calls _).mono ?_
  rintro e w6 ⟨rfl, hb6⟩
  go_wp2
  go_ret
  exact ⟨rfl, Below.self_trans hb5' hb6⟩

end Go.Proofs.Ytgdlaclngenfaaa
