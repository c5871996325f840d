/- The fields of a head: fields of package head and of the reference. -/
import Derived.Test.YtglljdhhgmgbgaaDoorHeadS
import Derived.Test.YtglljdhhgmgbgaaDoorSource
import Derived.Test.YtglljdhhgmgbgaaDoorN06
import Derived.Test.YtglljdhhgmgbgaaDoorLineR
namespace Go.Proofs.YtglljdhhgmgbgaaDoor
open Go.RowKit Go.Own
set_option linter.unusedVariables false
set_option maxHeartbeats 2000000

def FieldsV (B : Nat) (q : List Fld × Int) (e : Ending) (w' : World) : Prop := ∃ v, e = .returned (.tuple #[v, .int .i64 q.2]) ∧ OwnF B w' v q.1
theorem FieldsV_many {B : Nat} {l : List ByteArray} {w' : World} (h : 64 < l.length) : FieldsV B (fieldsP l) (.returned (.tuple #[.slice none 0 0, .int .i64 3])) w' := by
  rw [fieldsP_many h]; exact ⟨_, rfl, World.ownsRow_nil _ _ _ _⟩
theorem FieldsV_bad {B : Nat} {l : List ByteArray} {w' : World} (h : ¬ 64 < l.length) (k : Nat) (hk : k < l.length) (hp : parseF l[k] = none) : FieldsV B (fieldsP l) (.returned (.tuple #[.slice none 0 0, .int .i64 2])) w' := by
  rw [fieldsP_bad h k hk hp]; exact ⟨_, rfl, World.ownsRow_nil _ _ _ _⟩
theorem FieldsV_ok {B : Nat} {l : List ByteArray} {w' : World} (h : ¬ 64 < l.length) (hp : parsedS l = true) {v : Value} (hv : OwnF B w' v (fieldsOf l)) : FieldsV B (fieldsP l) (.returned (.tuple #[v, .int .i64 0])) w' := by
  rw [fieldsP_ok h hp]; exact ⟨_, rfl, hv⟩
theorem box_one {w1 : World} (o : Obj) : Below w1.heap.size w1 (w1.alloc o) := (Below.refl _ _).alloc (Nat.le_refl _) _

set_option maxRecDepth 100000 in
theorem hfields_calls (va : Value) (l : List ByteArray) (w : World) (hE : Env w) (Ha : RdS w va l) (hl : l.length ≤ 2000000) (hz : ∀ x ∈ l, x.size < 4294967281) :
    Calls Tryd.prog 10 #[va] w fun e w' => FieldsV w.heap.size (fieldsP l) e w' ∧ Below w.heap.size w w' := by
  obtain ⟨a, cap, rfl, h1, h2, h3, hc⟩ := Ha
  by_cases h64 : 64 < l.length
  · have HR := Lib.hid (fun B w' => FieldsV_many (B := B) (w' := w') h64)
    have hi : (64 : Int) < (l.length : Int) := by omega
    clear h64 hc hz h1 h2 h3
    go_enter Tryd.func10, Tryd.ntmps10
    go_wp2
    exact bodyPost_ret (v := .tuple #[.slice none 0 0, .int .i64 3]) (by simp [results, Tryd.results10, go_sem]) rfl ⟨HR.out _ _, Below.refl _ _⟩
  · have hi : ¬ (64 : Int) < (l.length : Int) := by omega
    have HBAD := Lib.hid (fun k hk hp B w' => FieldsV_bad (B := B) (w' := w') h64 k hk hp)
    have HOK := Lib.hid (fun hp (w' : World) v hv => FieldsV_ok (B := w.heap.size) (w' := w') h64 hp (v := v) hv)
    have HZ := Lib.hid hz
    have HCC := Lib.hid hc
    clear h64 hc hz h1 h2 h3
    go_enter Tryd.func10, Tryd.ntmps10
    go_wp2
    go_loopw [4, 14] (fun v i wr => ∃ (k : Nat) (done : List Fld), k ≤ l.length ∧ done.length ≤ k ∧ i = .int .i64 k ∧ OwnF w.heap.size wr v done ∧ Below w.heap.size w wr ∧ Hid (done = fieldsOf (l.take k)) ∧ Hid (parsedS (l.take k) = true)) (fun _ i _ => l.length - (intOf i).toNat)
    case atStart => exact ⟨0, [], Nat.zero_le _, Nat.le_refl _, rfl, World.ownsRow_nil _ _ _ _, Below.refl _ _, Lib.hid rfl, Lib.hid rfl⟩
    case round =>
      obtain ⟨k, done, hk, hdk, rfl, hown, hB, HD, HP⟩ := hrel
      obtain ⟨a0, c0, rfl, -, -, -⟩ := owned_slice hown
      have hroom : (done.length + 1) * 32 ≤ 140737488355328 := by omega
      have hroom2 : done.length + 1 ≤ maxLen := by simp [maxLen]; omega
      by_cases hlt : k < l.length
      · obtain ⟨g, off, rfl, hcell⟩ := (HCC.out.below hB).str k hlt
        have hki : (k : Int) < (l.length : Int) := by omega
        have hCP := Lib.hid (fparse_calls l[k] wr (hE.below hB) (HZ.out _ (List.getElem_mem hlt)))
        cases hp : parseF l[k] with
        | none =>
          have HR := Lib.hid (HBAD.out k hlt hp)
          have hv : parseV l[k] = .tuple #[.agg #[.string .empty, .string .empty], .int .i64 2] := by unfold parseV; rw [hp]
          rw [hv] at hCP
          clear hv hp HBAD HOK HD HP hown hroom hroom2
          go_wp2_with fail
          refine hCP.out.mono ?_
          rintro e w1 ⟨rfl, hb1⟩
          have hB1 := Below.self_trans hB hb1
          clear hb1 hcell hB hCP
          go_wp2
          exact bodyPost_ret (v := .tuple #[.slice none 0 0, .int .i64 2]) (by simp [results, Tryd.results10, go_sem]) rfl ⟨HR.out _ _, Below.self_trans hB1 (box_one _)⟩
        | some f =>
          have HD2 := Lib.hid (show done ++ [f] = fieldsOf (l.take (k + 1)) by rw [fieldsOf_succ hlt hp, HD.out])
          have HP2 := Lib.hid (parsedS_succ hlt HP.out hp)
          have hv : parseV l[k] = .tuple #[.agg #[.string f.name, .string f.val], .int .i64 0] := by unfold parseV; rw [hp]; rfl
          rw [hv] at hCP
          clear hv hp HBAD HOK HD HP
          go_wp2_with fail
          refine hCP.out.mono ?_
          rintro e w1 ⟨rfl, hb1⟩
          have hB1 := Below.self_trans hB hb1
          have hown1 := hown.below hb1
          have HO2 := Lib.hid (hown1.below (box_one (.cells #[.string f.name, .string f.val] 24)))
          have HB2 := Lib.hid (Below.self_trans hB1 (box_one (.cells #[.string f.name, .string f.val] 24)))
          clear hb1 hcell hB hCP hown hown1
          go_wp2_with (at_builtin; refine wpList_append_one rfl (.tmp 26) (.tmp 28) 25 rfl w HB2.out 24 (.agg #[.string .empty, .string .empty]) 2 32 Tryd.underlying25 info_fld rfl (by decide) a0 done.length c0 (fieldsV done) f.cells rfl (fld_one _) rfl HO2.out (by rw [World.size_alloc]; rfl) hroom hroom2 ?_; intro a1 c1 w3 hb3 hown3 hg3 _)
          go_roundw
          case rel => exact ⟨k + 1, done ++ [f], by omega, by simp; omega, by go_num, OwnF.snoc hown3, hb3, HD2, HP2⟩
          case measure => simp [intOf]; omega
      · have hki : ¬ (k : Int) < (l.length : Int) := by omega
        have ht : l.take k = l := List.take_of_length_le (by omega)
        have HR := Lib.hid (HOK.out (by have := HP.out; rwa [ht] at this) wr (.slice a0 done.length c0) (by rw [HD.out, ht] at hown; rw [← ht, ← HD.out] at hown ⊢; exact hown))
        clear ht HBAD HOK HD HP
        go_wp2
        exact bodyPost_ret (v := .tuple #[.slice a0 done.length c0, .int .i64 0]) (by simp [results, Tryd.results10, go_sem]) rfl ⟨HR.out, hB⟩
end Go.Proofs.YtglljdhhgmgbgaaDoor