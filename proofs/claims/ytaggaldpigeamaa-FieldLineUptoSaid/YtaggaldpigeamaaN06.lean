/- canarylaw06.fields and name: their walks. -/
import Derived.Test.YtaggaldpigeamaaL06
namespace Go.Proofs.Ytaggaldpigeamaa
open Go.RowKit Go.Own
set_option linter.unusedVariables false
set_option maxHeartbeats 1000000

def fsize (l : List Fld) : Nat := (l.map fun f => f.name.size + f.val.size + 2).sum
theorem fsize_mem {l : List Fld} {f : Fld} (h : f ∈ l) : f.name.size + f.val.size + 2 ≤ fsize l := by
  induction l with
  | nil => cases h
  | cons g l ih =>
    unfold fsize at ih ⊢
    rw [List.map_cons, List.sum_cons]
    rcases List.mem_cons.1 h with rfl | h
    · omega
    · have := ih h; omega
theorem fsize_length (l : List Fld) : 2 * l.length ≤ fsize l := by
  induction l with
  | nil => exact Nat.zero_le _
  | cons g l ih => unfold fsize at ih ⊢; rw [List.map_cons, List.sum_cons, List.length_cons]; omega
theorem fsize_take (l : List Fld) (n : Nat) : fsize (l.take n) ≤ fsize l := by
  induction l generalizing n with
  | nil => rw [List.take_nil]; exact Nat.le_refl _
  | cons g l ih =>
    cases n with
    | zero => exact Nat.zero_le _
    | succ n => have := ih n; unfold fsize at this ⊢; rw [List.take_succ_cons, List.map_cons, List.sum_cons, List.map_cons, List.sum_cons]; omega
theorem fsize_made (l : List Fld) (h : ∀ f ∈ l, MadeF f) : fsize l ≤ 45 * l.length := by
  induction l with
  | nil => exact Nat.le_refl _
  | cons g l ih =>
    have h1 := h g (List.mem_cons_self ..)
    have := ih fun f hf => h f (List.mem_cons_of_mem _ hf)
    unfold fsize at this ⊢
    rw [List.map_cons, List.sum_cons, List.length_cons]
    have := h1.2.1
    have := h1.2.2.1
    omega
theorem rdf_take {w : World} {a : Option Addr} {l : List Fld} {cap : Nat} (n : Nat) (hn : n ≤ l.length) (hc : RdC w a (fieldsV l)) (h1 : l.length ≤ cap) (h2 : cap ≤ maxLen) (h3 : a = none → cap = 0) : RdF w (.slice a n cap) (l.take n) := by
  have e : (l.take n).length = n := by rw [List.length_take]; omega
  refine ⟨a, cap, by rw [e], by rw [e]; omega, h2, h3, ?_⟩
  intro k hk
  have hlen := fieldsV_length (l.take n)
  have hlen2 := fieldsV_length l
  rw [hlen, e] at hk
  obtain ⟨b, off, ha, hx⟩ := hc k (by omega)
  refine ⟨b, off, ha, hx.trans ?_⟩
  have hsp : fieldsV l = fieldsV (l.take n) ++ fieldsV (l.drop n) := by rw [← fieldsV_append, List.take_append_drop]
  have : (fieldsV l)[k]? = (fieldsV (l.take n))[k]? := by rw [hsp, List.getElem?_append_left (by omega)]
  rw [List.getElem?_eq_getElem (by omega), List.getElem?_eq_getElem (by omega)] at this
  exact this

theorem lawFields_calls (vr : Value) (raw : List Fld) (vl : Value) (l : List Int) (wild : Bool) (M : Nat) (w : World) (Hr : RdF w vr raw) (Hl : RdI w vl l) (hM : fsize raw ≤ M) (hM2 : 1000 ≤ M) :
    Calls Try.prog 14 #[vr, vl, .bool wild] w fun e w' => (∃ v x, e = .returned v ∧ RdF w' v x ∧ x.length ≤ 30 ∧ fsize x ≤ M) ∧ Below w.heap.size w w' := by
  go_enter Try.func14, Try.ntmps14
  cases wild with
  | true =>
    obtain ⟨a, cap, rfl, hlc, hcm, hcn, hc⟩ := Hr
    by_cases h30 : 30 < raw.length
    · have hcm2 := hcm
      have hi : (30 : Int) < (raw.length : Int) := by omega
      have h3 : 30 ≤ cap := by omega
      have hr := rdf_take 30 (by omega) hc hlc hcm hcn
      unfold maxLen at hcm2
      go_wp2
      go_ret
      have r1 : (raw.take 30).length ≤ 30 := by rw [List.length_take]; omega
      have r2 := Nat.le_trans (fsize_take raw 30) hM
      first
        | exact ⟨⟨_, _, rfl, hr, r1, r2⟩, Below.refl _ _⟩
        | exact ⟨⟨_, rfl, _, hr, r1, r2⟩, Below.refl _ _⟩
    · have hi : ¬ (30 : Int) < (raw.length : Int) := by omega
      have hr : RdF w (.slice a raw.length cap) raw := ⟨a, cap, rfl, hlc, hcm, hcn, hc⟩
      go_wp2
      go_ret
      have r1 : raw.length ≤ 30 := by omega
      first
        | exact ⟨⟨_, _, rfl, hr, r1, hM⟩, Below.refl _ _⟩
        | exact ⟨⟨_, rfl, _, hr, r1, hM⟩, Below.refl _ _⟩
  | false =>
    obtain ⟨⟨a, cap, rfl, hlc, hcm, hcn, hc⟩, hin⟩ := Hl
    go_wp2_with fail
    refine (sfields_calls _ l 8 _ (src_new w a l cap hc hlc hcm hcn hin) (by omega) (by omega)).mono ?_
    rintro e w1 ⟨⟨v, x, rfl, hx8, hx, hown⟩, hg, -⟩
    have HB1 := below_new hg
    have hr := hown.rd
    have hx9 := fsize_made x hx
    clear hg hown
    go_wp2
    go_ret
    have r1 : x.length ≤ 30 := by omega
    have r2 : fsize x ≤ M := by omega
    first
      | exact ⟨⟨_, _, rfl, hr, r1, r2⟩, HB1⟩
      | exact ⟨⟨_, rfl, _, hr, r1, r2⟩, HB1⟩

theorem lawName_calls (vx : Value) (x : List Fld) (raw : ByteArray) (at0 : Int) (M : Nat) (w : World) (Hx : RdF w vx x) (hx : x.length ≤ 30) (hM : fsize x ≤ M) (hM2 : raw.size ≤ M) (hM3 : M ≤ maxLen) (hat : In64 at0) :
    Calls Try.prog 18 #[vx, .string raw, .int .i64 at0] w fun e w' => (∃ n, e = .returned (.string n) ∧ n.size ≤ M) ∧ Below w.heap.size w w' := by
  obtain ⟨a, cap, rfl, hlc, hcm, hcn, hc⟩ := Hx
  go_enter Try.func18, Try.ntmps18
  cases g0 : ((x.length : Int) == 0) with
  | true =>
    go_wp2
    all_goals
      go_ret
      exact ⟨⟨raw, rfl, hM2⟩, Below.refl _ _⟩
  | false =>
    cases g1 : (bits BinOp.and IntKind.i64 at0 1 == 1) with
    | true =>
      go_wp2
      all_goals
        go_ret
        exact ⟨⟨raw, rfl, hM2⟩, Below.refl _ _⟩
    | false =>
      have hpos : 0 < x.length := by rw [beq_eq_false_iff_ne] at g0; omega
      have hb2 : In64 (at0 / 2) := by obtain ⟨q1, q2⟩ := hat; exact ⟨by omega, by omega⟩
      go_wp2_with fail
      refine (within_calls (at0 / 2) x.length _ hb2 (by omega) (by omega)).mono ?_
      rintro e w1 ⟨rfl, rfl⟩
      obtain ⟨b1, b2⟩ := within_bd (at0 / 2) (x.length : Int) (by omega)
      obtain ⟨k, hk⟩ := Int.eq_ofNat_of_zero_le b1
      rw [hk] at b2 ⊢
      have hkN : k < x.length := by omega
      obtain ⟨b, off, rfl, hcell, hcell2⟩ := hc.fld k hkN
      have hsz := fsize_mem (List.getElem_mem hkN)
      have hs1 : x[k].name.size ≤ M := by omega
      have hs2 : x[k].name.size ≤ maxLen := Nat.le_trans hs1 hM3
      have hs3 : (lowerB x[k].name).size ≤ M := by rw [lowerB_size]; exact hs1
      clear hk b1 b2 hc hsz hs1
      go_wp2_with fail
      refine (refLower_calls _ _ hs2).mono ?_
      rintro e w2 ⟨rfl, hb⟩
      go_wp2
      go_ret
      exact ⟨⟨_, rfl, hs3⟩, hb⟩
end Go.Proofs.Ytaggaldpigeamaa
