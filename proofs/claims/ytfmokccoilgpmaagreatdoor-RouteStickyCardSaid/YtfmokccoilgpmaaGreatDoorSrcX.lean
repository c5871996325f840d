/- More on canarymade.Source: strings out of a literal list; rows beside a Source. -/
import Derived.Test.YtfmokccoilgpmaaGreatDoorSource
namespace Go.Proofs.YtfmokccoilgpmaaGreatDoor
open Go.RowKit Go.Own
set_option linter.unusedVariables false
set_option maxHeartbeats 1000000

theorem oflit_calls (ls : List ByteArray) (p : Nat) (l : List Int) (cs : Array Value) (m n c : Nat) (w : World) (h : Src w p l) (hcs : cs = (strsV ls).toArray) (hm : m = w.heap.size) (hn : n = ls.length) (hpos : 0 < ls.length) (hlen : ls.length ≤ 1000000) :
    Calls Tryz.prog 47 #[.pointer (some ⟨p, 0, none⟩), .slice (some ⟨m, 0, none⟩) n c] (w.alloc (.cells cs 9)) fun e w' => (∃ x ∈ ls, e = .returned (.string x)) ∧ w.grownBy w' (some p) ∧ Src w' p l := by
  subst hcs hm hn
  have hlt := h.lt
  refine (of_calls p l _ ls (some ⟨w.heap.size, 0, none⟩) c _ (h.grown ((Below.refl _ _).alloc (Nat.le_refl _) _)) rfl (RdC_new w (strsV ls) 9 (0, 0)) (by simp [blk]; omega) hpos hlen).mono ?_
  rintro e w' ⟨hx, hg, hs⟩
  exact ⟨hx, grownBy_trans (World.grownBy_alloc w _ _) hg, hs⟩

theorem below_src {w wr w2 : World} {p : Nat} (hb : Below w.heap.size w wr) (hg : wr.grownBy w2 (some p)) (hp : w.heap.size ≤ p) : Below w.heap.size w w2 :=
  hb.grown hg hb.size fun k hk => by have := Option.some.inj hk; omega
theorem below_row {w wr w2 : World} {B : Nat} {e : TypeId} {size : Nat} {a : Option Addr} {n c : Nat} {xs : List Value} (hb : Below w.heap.size w wr) (hg : wr.grownBy w2 (blk a)) (ho : wr.ownsRow B e size (.slice a n c) n xs) (hB : w.heap.size ≤ B) : Below w.heap.size w w2 :=
  hb.grown hg hb.size fun k hk => by have := (ho.lt k (by rw [ownBlock_slice]; exact hk)).1; omega
theorem own_src {wr w2 : World} {p B : Nat} {e : TypeId} {size : Nat} {v : Value} {n : Nat} {xs : List Value} (h : wr.ownsRow B e size v n xs) (hg : wr.grownBy w2 (some p)) (hp : p < B) : w2.ownsRow B e size v n xs :=
  h.kept hg (by
    cases e : v.ownBlock with
    | none => exact Or.inl rfl
    | some k => right; intro e2; have := (h.lt k e).1; have := Option.some.inj e2; omega)
theorem src_row {wr w2 : World} {p B : Nat} {l : List Int} {e : TypeId} {size : Nat} {a : Option Addr} {n c : Nat} {xs : List Value} (h : Src wr p l) (hg : wr.grownBy w2 (blk a)) (ho : wr.ownsRow B e size (.slice a n c) n xs) (hp : p < B) : Src w2 p l :=
  src_own h hg (by intro k hk; have := (ho.lt k (by rw [ownBlock_slice]; exact hk)).1; omega)
theorem of_max {ls : List ByteArray} {M : Nat} {x : ByteArray} (h : x ∈ ls) (hM : ls.all (fun s => decide (s.size ≤ M)) = true) : x.size ≤ M := by
  have := List.all_eq_true.1 hM x h
  simpa using this
end Go.Proofs.YtfmokccoilgpmaaGreatDoor
