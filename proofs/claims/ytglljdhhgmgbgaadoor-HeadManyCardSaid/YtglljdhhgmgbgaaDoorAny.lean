/- strings.ContainsAny at CR LF, whatever the text. -/
import Derived.Test.YtglljdhhgmgbgaaDoorPA
import Derived.Test.YtglljdhhgmgbgaaDoorShelf
import Derived.Test.YtglljdhhgmgbgaaDoorLineR
import Derived.Laws.RangeAny
import Derived.Laws.Runes
import Derived.Deep.DeepCutAuto
import Derived.WalkMore
import Derived.Deep.QuietTactic
import Derived.BigQuiet
import Derived.RegionTactic
namespace Go.Proofs.YtglljdhhgmgbgaaDoor
open Go.RowKit Go.Own
set_option linter.unusedVariables false
set_option maxHeartbeats 2000000

/-- the bytes of a rune that is no ASCII are no ASCII -/
theorem decode_span (s : ByteArray) (k : Nat) (h : k < s.size) (hb : 128 ≤ (s[k]'h).toNat) :
    1 ≤ (Utf8.decode s k).2 ∧ k + (Utf8.decode s k).2 ≤ s.size ∧ ∀ j (hj : j < s.size), k ≤ j → j < k + (Utf8.decode s k).2 → 128 ≤ (s[j]'hj).toNat := by
  have e : ∀ j, (hj : j < s.size) → s.get! j = s[j]'hj := by
    intro j hj
    simp [ByteArray.get!, getElem!_pos, hj]
    rfl
  have one : ∀ c : Nat × Nat, c.2 = 1 → 1 ≤ c.2 ∧ k + c.2 ≤ s.size ∧ ∀ j (hj : j < s.size), k ≤ j → j < k + c.2 → 128 ≤ (s[j]'hj).toNat := by
    rintro ⟨c, n⟩ rfl
    refine ⟨Nat.le_refl _, by show k + 1 ≤ _; omega, fun j hj h1 h2 => ?_⟩
    obtain rfl : j = k := by simp only at h2; omega
    exact hb
  have step : ∀ (c c' : Nat) (n : Nat), (1 ≤ n ∧ k + n ≤ s.size ∧ ∀ j (hj : j < s.size), k ≤ j → j < k + n → 128 ≤ (s[j]'hj).toNat) → (decide (k + n < s.size) && (s.get! (k + n)).toNat / 64 == 2) = true → (1 ≤ n + 1 ∧ k + (n + 1) ≤ s.size ∧ ∀ j (hj : j < s.size), k ≤ j → j < k + (n + 1) → 128 ≤ (s[j]'hj).toNat) := by
    intro c c' n hn hc
    simp only [Bool.and_eq_true, decide_eq_true_eq, beq_iff_eq] at hc
    refine ⟨by omega, by omega, fun j hj h1 h2 => ?_⟩
    by_cases hjn : j < k + n
    · exact hn.2.2 j hj h1 hjn
    · obtain rfl : j = k + n := by omega
      rw [← e _ hj]; omega
  have hone := one (0, 1) rfl
  unfold Utf8.decode
  have e0 : s.get! (k + 0) = s[k]'h := e k h
  simp only [e0]
  rw [if_neg (by omega)]
  split
  · rename_i c1
    rw [Bool.and_eq_true] at c1
    split
    · exact step 0 0 1 hone c1.2
    · exact hone
  · split
    · rename_i c1
      rw [Bool.and_eq_true, Bool.and_eq_true] at c1
      split
      · exact step 0 0 2 (step 0 0 1 hone c1.1.2) c1.2
      · exact hone
    · split
      · rename_i c1
        rw [Bool.and_eq_true, Bool.and_eq_true, Bool.and_eq_true] at c1
        split
        · exact step 0 0 3 (step 0 0 2 (step 0 0 1 hone c1.1.1.2) c1.1.2) c1.2
        · exact hone
      · exact hone

/-- the next rune, of an iterator that other blocks follow -/
theorem next_at {P : Program} {w wr : World} {s : ByteArray} {k : Nat} (hb : Below w.heap.size w wr) (hg : wr.heap[w.heap.size]? = some (.stringIter s k)) (h : k < s.size) :
    ∃ W', (∀ ty, (Instr.next (.pointer (some ⟨w.heap.size, 0, none⟩)) true ty).run P wr = .ok (.tuple #[.bool true, .int .i64 k, .int .i32 (Utf8.decode s k).1]) W') ∧
      Below w.heap.size w W' ∧ W'.heap[w.heap.size]? = some (.stringIter s (k + (Utf8.decode s k).2)) ∧ wr.heap.size ≤ W'.heap.size := by
  have hlt := (Array.getElem?_eq_some_iff.1 hg).1
  refine ⟨{ wr with heap := wr.heap.setIfInBounds w.heap.size (.stringIter s (k + (Utf8.decode s k).2)) }, ?_, ?_, ?_, ?_⟩
  · intro ty
    simp only [Instr.next, getObj, setObj, Sem.run_bind, Sem.run, hg, Result.andThen, h, if_true]
    simp [goInt]
  · refine ⟨hb.os, hb.tape, hb.output, by simpa using hb.size, fun i hi => ?_⟩
    show (wr.heap.setIfInBounds w.heap.size _)[i]? = _
    rw [Array.getElem?_setIfInBounds_ne (by omega)]
    exact hb.block i hi
  · show (wr.heap.setIfInBounds w.heap.size _)[w.heap.size]? = _
    rw [Array.getElem?_setIfInBounds_self_of_lt hlt]
  · simp
theorem next_end {P : Program} {w wr : World} {s : ByteArray} {k : Nat} (hg : wr.heap[w.heap.size]? = some (.stringIter s k)) (h : ¬ k < s.size) :
    ∀ ty, (Instr.next (.pointer (some ⟨w.heap.size, 0, none⟩)) true ty).run P wr = .ok (.tuple #[.bool false]) wr := by
  intro ty
  simp [Instr.next, getObj, Sem.run, hg, h]
theorem iter_pos {w wr : World} {s : ByteArray} {k : Nat} (hg : wr.heap[w.heap.size]? = some (.stringIter s k)) : wr.iterPos w.heap.size = k := by
  simp [World.iterPos, hg]

def validR (r : Int) : Bool := Utf8.valid r
theorem validRune_calls (r : Int) (w : World) (h : 128 ≤ r) :
    Calls Tryd.prog 72 #[.int .i32 r] w fun e w' => e = .returned (.bool (validR r)) ∧ w = w' := by
  have h0 : 0 ≤ r := by omega
  by_cases h1 : r < 55296
  · have HR := Lib.hid (show validR r = true by simp [validR, Utf8.valid]; omega)
    go_enter Tryd.func72, Tryd.ntmps72
    go_wp2
    go_ret
    exact ⟨ret_bool HR.out.symm, rfl⟩
  · by_cases h2 : 57343 < r
    · by_cases h3 : r ≤ 1114111
      · have HR := Lib.hid (show validR r = true by simp [validR, Utf8.valid]; omega)
        go_enter Tryd.func72, Tryd.ntmps72
        go_wp2
        go_ret
        exact ⟨ret_bool HR.out.symm, rfl⟩
      · have HR := Lib.hid (show validR r = false by simp [validR, Utf8.valid]; omega)
        go_enter Tryd.func72, Tryd.ntmps72
        go_wp2
        go_ret
        exact ⟨ret_bool HR.out.symm, rfl⟩
    · have HR := Lib.hid (show validR r = false by simp [validR, Utf8.valid]; omega)
      go_enter Tryd.func72, Tryd.ntmps72
      go_wp2
      go_ret
      exact ⟨ret_bool HR.out.symm, rfl⟩

def crlfB : ByteArray := ⟨#[13, 10]⟩
set_option maxRecDepth 100000 in
/-- the replacement rune is not there -/
theorem idxrune_err (w : World) :
    Calls Tryd.prog 55 #[.string ⟨#[13, 10]⟩, .int .i32 65533] w fun e w' => e = .returned (.int .i64 (-1)) ∧ Below w.heap.size w w' := by
  go_enter Tryd.func55, Tryd.ntmps55
  go_wp2
  go_loopw [5, 6] (fun _ _ wr => ∃ k : Nat, k ≤ 2 ∧ wr = w.iter ⟨#[13, 10]⟩ k) (fun _ _ wr => 2 - wr.iterPos w.heap.size)
  case atStart => exact ⟨0, by omega, rfl⟩
  case round =>
    obtain ⟨k, hk, rfl⟩ := hrel
    by_cases h0 : k = 0
    · subst h0
      have hnx := fun ty => run_next_ascii (P := Tryd.prog) w ⟨#[13, 10]⟩ 0 ty (by decide) (by decide)
      go_wp2
      go_roundw
      case rel => exact ⟨1, by omega, rfl⟩
      case measure => simp
    · by_cases h1 : k = 1
      · subst h1
        have hnx := fun ty => run_next_ascii (P := Tryd.prog) w ⟨#[13, 10]⟩ 1 ty (by decide) (by decide)
        go_wp2
        go_roundw
        case rel => exact ⟨2, by omega, rfl⟩
        case measure => simp
      · obtain rfl : k = 2 := by omega
        have hnx := fun ty => run_next_end (P := Tryd.prog) w ⟨#[13, 10]⟩ 2 ty (by decide)
        go_wp2
        go_ret
        exact ⟨rfl, (Below.refl _ _).alloc (Nat.le_refl _) _⟩

set_option maxRecDepth 100000 in
/-- a rune that is no ASCII is not there -/
theorem idxrune_big (r : Int) (w : World) (h0 : 128 ≤ r) :
    Calls Tryd.prog 55 #[.string ⟨#[13, 10]⟩, .int .i32 r] w fun e w' => e = .returned (.int .i64 (-1)) ∧ Below w.heap.size w w' := by
  by_cases he : r = 65533
  · subst he; exact idxrune_err w
  · have he2 : (r == 65533) = false := beq_eq_false_iff_ne.2 he
    have hV := Lib.hid (fun w => validRune_calls r w h0)
    clear he
    have h1 : ¬ r < 128 := by omega
    have h2 : 0 ≤ r := by omega
    cases hv : validR r with
    | false =>
      rw [hv] at hV
      clear hv
      go_enter Tryd.func55, Tryd.ntmps55
      go_wp2_with fail
      refine (hV.out _).mono ?_
      rintro e w1 ⟨rfl, rfl⟩
      go_wp2
      go_ret
      exact ⟨rfl, Below.refl _ _⟩
    | true =>
      obtain ⟨z2, z4, z5⟩ := encode_facts r hv h0
      rw [hv] at hV
      clear hv
      generalize hs : Utf8.encode r = s at z2 z4 z5
      have HS := Lib.hid hs
      have hconv : ∀ w, (convert 21 9 (.int .i32 r)).run Tryd.prog w = .ok (.string s) w := by
        intro w
        rw [← hs]
        exact run_convert_int_string w _ _ _ _ (by rw [Tryd.underlying21]; rfl) Tryd.underlying9
      have hlast := z5 (by omega)
      clear hs z5
      by_cases h3 : s.size = 2
      · have hb : ∃ c : UInt8, s[1]'(by omega) = c ∧ 128 ≤ c.toNat := ⟨_, rfl, by simpa only [h3] using hlast⟩
        obtain ⟨c, hc, hc2⟩ := hb
        have hc3 : ((10 : Int) == (c.toNat : Int)) = false := beq_eq_false_iff_ne.2 (by omega)
        have hc4 : ((10 : Int) != (c.toNat : Int)) = true := by rw [bne, hc3]; rfl
        have hc5 : ((((⟨#[13, 10]⟩ : ByteArray)[1]'(by decide)).toNat : Int) != (c.toNat : Int)) = true := hc4
        have hib : Lib.indexByte [] c = -1 := rfl
        have hz : (s.size : Int) = 2 := by omega
        clear hlast
        go_enter Tryd.func55, Tryd.ntmps55
        go_wp2_with fail
        refine (hV.out _).mono ?_
        rintro e w1 ⟨rfl, rfl⟩
        go_wp2
        go_step3
        go_wp2
        go_loopw [9, 10, 11] (fun i _ _ wr => i = .int .i64 1 ∧ wr = w) (fun i _ _ _ => 0)
        case atStart => exact ⟨by first | rfl | simp [hz], rfl⟩
        case round =>
          obtain ⟨rfl, rfl⟩ := hrel
          go_wp2
          go_step3
          go_wp2
          go_quiet (fail)
          go_wp2
          go_region_with ((go_at_call 34; refine (Tryd.strings_IndexByte _ _ _).mono ?_; rintro e w2 ⟨rfl, hw2⟩; subst hw2))
          all_goals
            go_wp2
            show bodyPost Tryd.prog Tryd.f55 (fun e w' => e = .returned (.int .i64 (-1)) ∧ Below wr.heap.size wr w') .ret _ _
            go_ret
            exact ⟨rfl, below_drewN (Below.refl _ _) _⟩
      · have hz2 : 3 ≤ s.size := by omega
        have hz : (2 : Int) ≤ (s.size : Int) - 1 := by omega
        have hz3 : (s.size : Int) ≤ 4 := by omega
        clear hlast h3 z2 z4 hz2
        go_enter Tryd.func55, Tryd.ntmps55
        go_wp2_with fail
        refine (hV.out _).mono ?_
        rintro e w1 ⟨rfl, rfl⟩
        go_wp2
        go_step3
        go_wp2
        go_loopw [9, 10, 11] (fun i _ _ wr => i = .int .i64 ((s.size : Int) - 1) ∧ wr = w) (fun i _ _ _ => 0)
        case atStart => exact ⟨by first | rfl | simp, rfl⟩
        case round =>
          obtain ⟨rfl, rfl⟩ := hrel
          go_wp2
          rw [Exit.noGoto_ret]
          go_ret
          exact ⟨rfl, Below.refl _ _⟩

theorem clean_iff_at {l : List UInt8} {k : Nat} (h : k < l.length) (hc : clean (l.take k) = true) : clean (l.take (k + 1)) = !((l[k] == 13) || (l[k] == 10)) := by
  obtain ⟨h1, h2⟩ := clean_iff.1 hc
  unfold clean
  rw [List.take_succ_eq_append_getElem h]
  unfold hasB at h1 h2 ⊢
  rw [List.any_append, List.any_append, h1, h2]
  simp
theorem clean_take_no {l : List UInt8} {k : Nat} (h : clean (l.take k) = false) : clean l = false := by
  cases hl : clean l with
  | false => rfl
  | true =>
    obtain ⟨h1, h2⟩ := clean_iff.1 hl
    have : clean (l.take k) = true := by
      rw [clean_iff]
      unfold hasB at h1 h2 ⊢
      rw [List.any_eq_false] at h1 h2
      rw [List.any_eq_false, List.any_eq_false]
      exact ⟨fun x hx => h1 x (List.mem_of_mem_take hx), fun x hx => h2 x (List.mem_of_mem_take hx)⟩
    rw [h] at this; cases this
/-- behind a rune that is no ASCII all is as clean as before -/
theorem clean_span {l : List UInt8} {k n : Nat} (hc : clean (l.take k) = true) (hs : ∀ j (hj : j < l.length), k ≤ j → j < k + n → 128 ≤ (l[j]'hj).toNat) : clean (l.take (k + n)) = true := by
  have no : ∀ c : UInt8, c.toNat < 128 → hasB (l.take k) c = false → hasB (l.take (k + n)) c = false := by
    intro c hc h
    unfold hasB at h ⊢
    rw [List.any_eq_false] at h ⊢
    intro x hx hxc
    obtain ⟨j, hj, rfl⟩ := List.getElem_of_mem hx
    rw [List.getElem_take] at hxc hx
    have hj2 : j < k + n := by rw [List.length_take] at hj; omega
    have hj3 : j < l.length := by rw [List.length_take] at hj; omega
    by_cases hjk : j < k
    · exact h l[j] (by rw [List.mem_take_iff_getElem]; exact ⟨j, by omega, rfl⟩) hxc
    · have := hs j hj3 (by omega) hj2
      rw [beq_iff_eq] at hxc
      rw [hxc] at this; omega
  obtain ⟨h1, h2⟩ := clean_iff.1 hc
  exact clean_iff.2 ⟨no 13 (by decide) h1, no 10 (by decide) h2⟩

/-- what IndexAny says of CR and LF -/
def AnyV (l : List UInt8) (e : Ending) : Prop := ∃ v : Int, e = .returned (.int .i64 v) ∧ decide (0 ≤ v) = !clean l
set_option maxRecDepth 100000 in
theorem anyshort_calls (s : ByteArray) (w : World) (h8 : s.size ≤ 8) :
    Calls Tryd.prog 32 #[.string s, .string ⟨#[13, 10]⟩] w fun e w' => AnyV (bl s) e ∧ Below w.heap.size w w' := by
  have hU := Lib.hid (fun n w => Tryd.strings_shouldUseASCIISet n w)
  have h8z : decide ((8 : Int) < (s.size : Int)) = false := decide_eq_false (by omega)
  go_enter Tryd.func32, Tryd.ntmps32
  go_wp2_with fail
  refine (hU.out _ _).mono ?_
  rintro e w1 ⟨rfl, hw⟩
  rw [hw, h8z]
  clear hw
  go_wp2
  go_loopw [9, 10] (fun _ _ wr => ∃ k : Nat, k ≤ s.size ∧ Below w.heap.size w wr ∧ Hid (wr.heap[w.heap.size]? = some (.stringIter s k)) ∧ Hid (clean ((bl s).take k) = true)) (fun _ _ wr => s.size - wr.iterPos w.heap.size)
  case atStart => exact ⟨0, Nat.zero_le _, (Below.refl _ _).alloc (Nat.le_refl _) _, Lib.hid (World.iter_heap w s 0), rfl⟩
  case round =>
    obtain ⟨k, hk, hB, HG, HC⟩ := hrel
    have HI := Lib.hid (iter_pos HG.out)
    by_cases hlt : k < s.size
    · have hk2 : k < (bl s).length := by rw [bl_length]; exact hlt
      have hsk : s[k]'hlt = (bl s)[k] := rfl
      obtain ⟨W', hnx, hB1, hG1, hsz⟩ := next_at (P := Tryd.prog) hB HG.out hlt
      have HS := Lib.hid (clean_iff_at hk2 HC.out)
      by_cases ha : (s[k]'hlt).toNat < 128
      · have hd : Utf8.decode s k = ((s[k]'hlt).toNat, 1) := decode_ascii s k hlt ha
        rw [hd] at hnx hG1
        have HG1 := Lib.hid hG1
        generalize hx : s[k]'hlt = x at hnx ha hsk
        have HX := Lib.hid (hsk.symm)
        have hR := Lib.hid (fun w => Tryd.strings_IndexRune_ascii ⟨#[13, 10]⟩ (x.toNat : Int) w (by omega) (by omega))
        have hback : ((x.toNat : Int)).toNat.toUInt8 = x := by simp
        have hix : Lib.indexByte (⟨#[13, 10]⟩ : ByteArray).data.toList x = if x = 13 then 0 else if x = 10 then 1 else -1 := by
          show Lib.indexByte [13, 10] x = _
          simp only [Lib.indexByte]
          by_cases h1 : x = 13
          · subst h1; rfl
          · by_cases h2 : x = 10
            · subst h2; rfl
            · rw [if_neg h1, if_neg h2]
              have e1 : ((13 : UInt8) == x) = false := beq_eq_false_iff_ne.2 (Ne.symm h1)
              have e2 : ((10 : UInt8) == x) = false := beq_eq_false_iff_ne.2 (Ne.symm h2)
              simp [e1, e2]
        rw [hback, hix] at hR
        clear hd hG1 hx hsk hback hix hsz HG hB
        by_cases hc : x = 13 ∨ x = 10
        · have HR := Lib.hid (clean_take_no (by rw [HS.out, HX.out]; rcases hc with h | h <;> rw [h] <;> rfl))
          have hv : ∃ v : Int, (if x = 13 then (0 : Int) else if x = 10 then 1 else -1) = v ∧ 0 ≤ v := by
            rcases hc with h | h <;> subst h
            · exact ⟨0, rfl, by omega⟩
            · exact ⟨1, rfl, by omega⟩
          obtain ⟨v, hv, hv0⟩ := hv
          rw [hv] at hR
          clear hv hc HC HS HX ha HG1 HI
          go_wp2_with fail
          refine (hR.out _).mono ?_
          rintro e w2 ⟨rfl, hw2⟩
          rw [hw2]
          clear hw2
          go_wp2
          go_ret
          exact ⟨⟨_, rfl, by rw [HR.out]; simp⟩, hB1⟩
        · have hR' : (if x = 13 then (0 : Int) else if x = 10 then 1 else -1) = -1 := by rw [if_neg (fun h => hc (Or.inl h)), if_neg (fun h => hc (Or.inr h))]
          rw [hR'] at hR
          have HR := Lib.hid (show clean ((bl s).take (k + 1)) = true by rw [HS.out, HX.out]; simp; exact ⟨fun h => hc (Or.inl h), fun h => hc (Or.inr h)⟩)
          clear hR' hc HC HS HX ha
          go_wp2_with fail
          refine (hR.out _).mono ?_
          rintro e w2 ⟨rfl, hw2⟩
          rw [hw2]
          clear hw2
          go_wp2
          go_roundw
          case rel => exact ⟨k + 1, by omega, hB1, HG1, HR⟩
          case measure => rw [HI.out, iter_pos HG1.out]; omega
      · obtain ⟨q1, q2, q3⟩ := decode_span s k hlt (by omega)
        have hbig := (decode_high s k hlt (by omega)).1
        have HR := Lib.hid (clean_span (n := (Utf8.decode s k).2) HC.out fun j hj g1 g2 => q3 j (by rw [← bl_length]; exact hj) g1 g2)
        have HG1 := Lib.hid hG1
        generalize Utf8.decode s k = d at hnx HG1 q1 q2 hbig HR
        have hR := Lib.hid (fun w => idxrune_big (d.1 : Int) w (by omega))
        clear hG1 q3 HC HS hsk hsz HG hB ha
        go_wp2_with fail
        refine (hR.out _).mono ?_
        rintro e w2 ⟨rfl, hb2⟩
        have hB2 := hB1.trans (hb2.mono hB1.size)
        have HG2 := Lib.hid (row_below HG1.out hb2)
        clear hb2
        go_wp2
        go_roundw
        case rel => exact ⟨k + d.2, q2, hB2, HG2, HR⟩
        case measure => rw [HI.out, iter_pos HG2.out]; omega
    · have hnx := next_end (P := Tryd.prog) HG.out hlt
      have HR := Lib.hid (show clean (bl s) = true by have := HC.out; rwa [List.take_of_length_le (by rw [bl_length]; omega)] at this)
      clear HC HI HG
      go_wp2
      go_ret
      exact ⟨⟨_, rfl, by rw [HR.out]; rfl⟩, hB⟩

theorem any_clean : ∀ (l : List UInt8), decide (0 ≤ Lib.indexAny l [13, 10]) = !clean l
  | [] => rfl
  | c :: l => by
    have ih := any_clean l
    have hge := Lib.indexAny_ge [13, 10] l
    unfold Lib.indexAny
    by_cases h : ([13, 10] : List UInt8).contains c = true
    · rw [if_pos h]
      have : c = 13 ∨ c = 10 := by simpa using h
      rcases this with rfl | rfl <;> simp [clean, hasB]
    · rw [if_neg h]
      have h2 : c ≠ 13 ∧ c ≠ 10 := by simpa using h
      have e : clean (c :: l) = clean l := by
        unfold clean hasB
        have e1 : (c == (13 : UInt8)) = false := beq_eq_false_iff_ne.2 h2.1
        have e2 : (c == (10 : UInt8)) = false := beq_eq_false_iff_ne.2 h2.2
        rw [List.any_cons, List.any_cons, e1, e2, Bool.false_or, Bool.false_or]
      rw [e, ← ih]
      by_cases hm : Lib.indexAny l [13, 10] = -1
      · rw [hm]; rfl
      · rw [if_neg (by simpa using hm)]
        have : 0 ≤ Lib.indexAny l [13, 10] := by omega
        rw [decide_eq_true this, decide_eq_true (by omega)]
theorem anylong_calls (s : ByteArray) (w : World) (h8 : 8 < s.size) (hs : s.size < 4294967281) :
    Calls Tryd.prog 32 #[.string s, .string ⟨#[13, 10]⟩] w fun e w' => AnyV (bl s) e ∧ Below w.heap.size w w' := by
  have hv := (zero_of_info (P := Tryd.prog) (t := 86) (show (Tryd.prog.info? 86).map (fun i => (i.zero, i.size)) = some (some (.agg (Array.replicate 256 (.bool false))), 256) by kernel_rfl)).1
  refine (Tryd.strings_IndexAny_long hv s ⟨#[13, 10]⟩ w (by decide) h8 hs (by decide) ?_).mono ?_
  · intro j b hj
    match j, hj with
    | 0, hj => simp at hj; subst hj; decide
    | 1, hj => simp at hj; subst hj; decide
    | j + 2, hj => simp at hj
  · rintro e w' ⟨rfl, rfl⟩
    exact ⟨⟨_, rfl, any_clean _⟩, ((Below.refl _ _).alloc (Nat.le_refl _) _).alloc (by simp) _⟩
theorem any_calls (s : ByteArray) (w : World) (hs : s.size < 4294967281) :
    Calls Tryd.prog 19 #[.string s, .string ⟨#[13, 10]⟩] w fun e w' => e = .returned (.bool (!clean (bl s))) ∧ Below w.heap.size w w' := by
  have HA := Lib.hid (show Calls Tryd.prog 32 #[.string s, .string ⟨#[13, 10]⟩] w fun e w' => AnyV (bl s) e ∧ Below w.heap.size w w' by
    by_cases h8 : s.size ≤ 8
    · exact anyshort_calls s w h8
    · exact anylong_calls s w (by omega) hs)
  clear hs
  go_enter Tryd.func19, Tryd.ntmps19
  go_wp2_with fail
  refine HA.out.mono ?_
  rintro e w1 ⟨⟨v, rfl, hv⟩, hb⟩
  have HV := Lib.hid hv
  clear hv
  go_wp2
  go_ret
  exact ⟨ret_bool HV.out, hb⟩
end Go.Proofs.YtglljdhhgmgbgaaDoor
