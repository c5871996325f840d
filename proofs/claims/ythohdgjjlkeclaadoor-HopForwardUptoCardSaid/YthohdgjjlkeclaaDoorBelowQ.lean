/- A region that draws its order, whose callees make memory but hand back one value each: one walk, in the order of the text. No program stands here. -/
import Derived.Test.YthohdgjjlkeclaaDoorLib
import Derived.BigQuiet
namespace Go.Own
set_option linter.unusedVariables false
open Go.RowKit

/-- a world in which everything that w0 had is as it was -/
structure After (w0 : World) where
  now : World
  h : Below w0.heap.size w0 now

instance (w0 : World) : Nonempty (After w0) := ⟨⟨w0, Below.refl _ _⟩⟩

theorem After.keep {w0 : World} {p : Addr} {v : Value} (h : w0.cell? p = some v) (x : After w0) : x.now.cell? p = some v :=
  (x.h.cell (World.block_lt_of_cell? w0 p h)).trans h

theorem wp_region_below {P : Program} {id : Nat} {Q : Exit → Act → World → Prop} {a : Act} {w : World} {l : List Oper} (hm : P.follows .mixedOrders = true) (hB : Region.lexB .any l.toArray = true)
    (h : wpQuiet P l.toArray (fun w' => ∃ x : After w, w' = x.now) (fun a' => ∀ w', (∃ x : After w, w' = x.now) → Q .normal a' w') l a) : (Code.region id l.toArray true).wp P Q a w :=
  wp_region_quiet (C := fun w' => ∃ x : After w, w' = x.now) hm hB ⟨⟨w.drew, (Below.refl _ _).drew⟩, rfl⟩ (by simpa using h)

theorem After.call {P : Program} {f : FuncId} {args : Array Value} {w0 : World} {x : After w0} {v : Value}
    (h : Calls P f args x.now fun e w' => e = .returned v ∧ Below x.now.heap.size x.now w') : Calls P f args x.now fun e w' => e = .returned v ∧ ∃ y : After w0, w' = y.now :=
  h.mono fun _ w' ⟨he, hb⟩ => ⟨he, ⟨w', Below.self_trans x.h hb⟩, rfl⟩
theorem After.same {P : Program} {f : FuncId} {args : Array Value} {w0 : World} {x : After w0} {v : Value}
    (h : Calls P f args x.now fun e w' => e = .returned v ∧ x.now = w') : Calls P f args x.now fun e w' => e = .returned v ∧ ∃ y : After w0, w' = y.now :=
  h.mono fun _ w' ⟨he, hb⟩ => ⟨he, x, hb.symm⟩

/-- 'string(b)', as one equation -/
theorem conv_bytes {P : Program} {w : World} {src dst e : TypeId} (hs : P.underlying src = some (.slice e)) (he : P.underlying e = some (.int .u8)) (hd : P.underlying dst = some .string)
    {ao : Option Addr} {n cap : Nat} {l : List UInt8} (hn : n = l.length) (hr : RdC w ao (bytesV l)) : (convert src dst (.slice ao n cap)).run P w = .ok (.string ⟨l.toArray⟩) w := by
  subst hn
  cases ao with
  | none =>
    have hl : l = [] := by
      cases l with
      | nil => rfl
      | cons c l => obtain ⟨b, off, h, -⟩ := hr 0 (by simp [bytesV]); cases h
    subst hl
    rw [run_convert_bytes_string w src dst e none _ cap hs he hd]
    rfl
  | some ad =>
    refine run_convert_bytes_back w src dst e ad cap l hs he hd ?_
    intro j hj
    obtain ⟨b, off, had, hc⟩ := hr.byte j hj
    obtain rfl := Option.some.inj had
    rw [Addr.add_lit]
    exact hc
theorem After.conv {P : Program} {w0 : World} {src dst e : TypeId} (hs : P.underlying src = some (.slice e)) (he : P.underlying e = some (.int .u8)) (hd : P.underlying dst = some .string)
    {ao : Option Addr} {n cap : Nat} {l : List UInt8} (hn : n = l.length) (hr : RdC w0 ao (bytesV l)) (x : After w0) : (convert src dst (.slice ao n cap)).run P x.now = .ok (.string ⟨l.toArray⟩) x.now :=
  conv_bytes hs he hd hn (hr.below x.h)
end Go.Own
