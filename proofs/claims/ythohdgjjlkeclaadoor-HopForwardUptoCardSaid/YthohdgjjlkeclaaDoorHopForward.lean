/- HopForward closed: the law's row out of its walk. -/
import Derived.Test.YthohdgjjlkeclaaDoorOpen
import Derived.Test.YthohdgjjlkeclaaDoorCards
import Derived.Test.YthohdgjjlkeclaaDoorTie
import Derived.Test.YthohdgjjlkeclaaDoorOpenR
import Derived.Test.YthohdgjjlkeclaaDoorOpenL
import Derived.Test.YthohdgjjlkeclaaDoorR13
namespace Go.Proofs.YthohdgjjlkeclaaDoor.hopForward
open Go.ChangeShapes Go.WideShapes Go.ChangeAt Go.RowKit Go.Own
set_option linter.unusedVariables false

theorem readable : ∀ t ∈ [22, 26, 9, 4], Tryd.prog.readableRec t = true ∧ t < Tryd.prog.types.size := by
  intro t ht
  have h : ([22, 26, 9, 4].all fun t => Tryd.prog.readableRec t && decide (t < Tryd.prog.types.size)) = true := by kernel_rfl
  have := List.all_eq_true.1 h t ht
  simpa using this

set_option maxRecDepth 100000 in
theorem contract (H : Type) (enc : TypeId × Value → H) (W : World) (base : Nat) (args : Array Value) (ds gs : List (DataW H)) (before : List MemPlace)
    (hval0 : ∀ (j : Nat) t v, Tryd.f3.params[j]? = some t → args[j]? = some v → Value.okWide Tryd.prog W .any base t v)
    (hW : DataW.Whole enc Tryd.prog Tryd.f3.params.toList Rows.hopForwardSpec.vars false W args.toList ds gs before) (hk0 : Rows.uptoSmall H (ds ++ gs) = true) (hE : EnvP W) :
    Calls Tryd.prog 3 args W fun e W' => ∃ v, e = .returned v ∧ Rows.hopForwardSpec.post enc Tryd.prog Tryd.f3 false true false false W args v W' := by
  have hval : ∀ (j : Nat) t v, Tryd.f3.params[j]? = some t → args[j]? = some v → Value.okWide Tryd.prog W .any base t v := hval0
  have hW' := hW
  obtain ⟨p, q, hA0, hV, rfl, hfz, hnd⟩ := hW
  have hA : DataW.TrodAll enc Tryd.prog W 0 (fun _ => true) true Tryd.f3.params.toList args.toList ds p := hA0
  rw [Tryd.params3] at hA hval
  have hAll := hA
  obtain ⟨v0, vs0, d0, ds0, p0, q0, hargs, rfl, rfl, h0, r0⟩ := trodAll_cons hA
  obtain ⟨v1, vs1, d1, ds1, p1, q1, rfl, rfl, rfl, h1, r1⟩ := trodAll_cons r0
  obtain ⟨v2, vs2, d2, ds2, p2, q2, rfl, rfl, rfl, h2, r2⟩ := trodAll_cons r1
  obtain ⟨v3, vs3, d3, ds3, p3, q3, rfl, rfl, rfl, h3, r3⟩ := trodAll_cons r2
  obtain ⟨rfl, rfl, rfl⟩ := trodAll_nil r3
  obtain rfl : args = #[v0, v1, v2, v3] := by cases args; simp_all
  obtain ⟨rfl, rfl⟩ := trodVars_none hV
  have hk := bulk_bound hk0
  simp only [List.append_nil, Rows.uptoBulkAll] at hk
  obtain ⟨a0, H0, k0⟩ := open_intsl Tryd.underlying22 Tryd.underlying3 (by kernel_rfl) (hval 0 22 v0 rfl rfl) h0
  obtain ⟨rm1, rt1, rn1, vf1, x1, fr1, vb1, b1, rfl, HF1, HB1, wn1, k1⟩ := open_request Tryd.underlying26 (by kernel_rfl) (by kernel_rfl) Tryd.underlying9 Tryd.underlying9 Tryd.underlying3 Tryd.underlying23 Tryd.underlying4 Tryd.underlying24 Tryd.underlying41 (by kernel_rfl) rfl rfl (by kernel_rfl) (by kernel_rfl) Tryd.underlying9 Tryd.underlying9 Tryd.underlying5 (by kernel_rfl) (hval 1 26 v1 rfl rfl) h1
  obtain ⟨a2, rfl, k2, m2⟩ := open_str Tryd.underlying9 (hval 2 9 v2 rfl rfl) h2
  obtain ⟨a3, rfl, e3, -⟩ := open_bool Tryd.underlying4 (hval 3 4 v3 rfl rfl) h3
  refine (hopForward_core v0 a0 rm1 rt1 rn1 vf1 x1 fr1 vb1 b1 a2 a3 W hE H0 HF1 HB1 (by unfold fsize; omega) (by omega) (by omega)).mono fun e W' ⟨he, bel⟩ => ?_
  subst he
  exact ⟨_, rfl, _, _, _, [], _, [], hW', trodAll_mk1 (shut_bool Tryd.underlying4 _), trodAll_below laid_out bel [22, 26, 9, 4] readable _ _ _ hAll, rfl, bel.frame _, fun h => by cases h⟩

/-- a world for the witness: the settled one, each listed variable holding what the list says -/
noncomputable def laidWorld (os : Os) : World := laying Rows.hopForwardUptoRow.laid (World.holding Tryd.prog os ⟨#[], #[], []⟩)
theorem laid_met (os : Os) : laidMet Tryd.prog Rows.hopForwardUptoRow.laid ((laidWorld os).forCall (fun _ _ => 0) ⟨#[], #[.slice none 0 0, .agg #[.string .empty, .string .empty, .int .i64 0, .slice none 0 0, .bool false, .slice none 0 0], .string .empty, .bool false], []⟩).memory :=
  laidMet_of_run' 8 (by kernel_rfl) (by kernel_rfl)
theorem reads (os : Os) {H : Type} (enc : TypeId × Value → H) : ∃ places, DataW.whole enc Tryd.prog ((laidWorld os).forCall (fun _ _ => 0) ⟨#[], #[.slice none 0 0, .agg #[.string .empty, .string .empty, .int .i64 0, .slice none 0 0, .bool false, .slice none 0 0], .string .empty, .bool false], []⟩).memory Tryd.f3.params.toList Rows.hopForwardSpec.vars false #[.slice none 0 0, .agg #[.string .empty, .string .empty, .int .i64 0, .slice none 0 0, .bool false, .slice none 0 0], .string .empty, .bool false].toList 8 = some ([.nil, .agg [.lit (.string []), .lit (.string []), .lit (.int .i64 0), .nil, .lit (.bool false), .nil], .lit (.string []), .lit (.bool false)], [], places) :=
  ⟨[], by kernel_rfl⟩

set_option maxRecDepth 100000 in
theorem lifted (os : Os) (started : os.Started) (H : Type) (enc : TypeId × Value → H) (F : Stop.Interp) :
    ReturnsInHanded {} Tryd.checked os 3 .any ((Rows.OpenSpec.upto Rows.hopForwardSpec).preRow enc Tryd.prog Tryd.f3 Rows.hopForwardUptoRow.domain false Rows.hopForwardUptoRow.laid) (((Rows.OpenSpec.upto Rows.hopForwardSpec).at F).post enc Tryd.prog Tryd.f3 false true false false) := by
  obtain ⟨places, hx⟩ := reads os enc
  refine returnsInHanded_of_row (C := Tryd.checked) (s := (Rows.OpenSpec.upto Rows.hopForwardSpec)) own_knob started (by kernel_rfl) Tryd.func3
    (witness_row_at (enc := enc) (C := Tryd.checked) false (laidWorld os) #[.slice none 0 0, .agg #[.string .empty, .string .empty, .int .i64 0, .slice none 0 0, .bool false, .slice none 0 0], .string .empty, .bool false] (by kernel_rfl) (by kernel_rfl) (by kernel_rfl) (by kernel_rfl)
      (OpenSpec.preRow_of_cond 8 hx (by kernel_rfl) (fun k hk => by cases hk; kernel_rfl) (by kernel_rfl) (laid_met os))) ?_
  intro W base args ds gs before hval hW _ hcond _ hL hsh _
  exact contract H enc W base args ds gs before hval hW (hcond _ rfl) (env_of2 hsh hL)

theorem said : Rows.HopForwardUptoSaid :=
  OpenClaim.holds_of_cond 3 Tryd.f3 rfl rfl rfl rfl rfl rfl rfl ⟨rfl, rfl, rfl, rfl, rfl⟩ rfl rfl rfl rfl rfl (by kernel_rfl) Tryd.func3 (by kernel_rfl)
    (of_decide_eq_true (by kernel_rfl)) (by unfold Func.isWrapper; rw [if_neg (of_decide_eq_false (by kernel_rfl))]; exact ⟨rfl, rfl⟩)
    (fun os started H enc _ F => by rw [OpenClaim.pre_eq_preRow]; exact lifted os started H enc F)

theorem plain (f : FuncId) (fn : Func) (hf : Tryd.pinned.checked.prog.funcNamed Rows.hopForwardUptoRow.func = some f) (hfn : Tryd.pinned.checked.prog.funcs[f]? = some fn) :
    false = Tryd.pinned.checked.prog.looks [] ∧ ∀ (j : Nat) t, fn.params[j]? = some t → Tryd.pinned.checked.prog.wantsStandIn t = false := by
  obtain rfl : f = 3 := Option.some.inj ((show Tryd.prog.funcNamed Rows.hopForwardUptoRow.func = some 3 by kernel_rfl).symm.trans hf) |>.symm
  obtain rfl : fn = Tryd.f3 := (Option.some.inj (Tryd.func3.symm.trans hfn)).symm
  refine ⟨by kernel_rfl, fun j t ht => ?_⟩
  rw [Tryd.params3] at ht
  have hm : t ∈ [22, 26, 9, 4] := by simpa using Array.mem_of_getElem? ht
  have h : ([22, 26, 9, 4].all fun t => Tryd.prog.wantsStandIn t == false) = true := by kernel_rfl
  have h2 := List.all_eq_true.1 h t hm
  have h3 : Tryd.prog.wantsStandIn t = false := by simpa using h2
  exact h3

theorem proved : Rows.HopForwardUptoCardSaid :=
  Claim7.holds_tied_plain_at .later [] _ _ _ _ said (fun _ h => by cases h) (by kernel_rfl) (fun _ h => by cases h) hopForwardUpto_row_tie rfl ⟨rfl, rfl⟩ (by kernel_rfl) rfl plain (by kernel_rfl)
#print axioms proved
end Go.Proofs.YthohdgjjlkeclaaDoor.hopForward
