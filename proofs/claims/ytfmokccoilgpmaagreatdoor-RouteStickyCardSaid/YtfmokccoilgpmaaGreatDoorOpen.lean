/- How the arguments of a law are opened, and how a walk that writes nothing old closes the law's row. -/
import Derived.Test.YtfmokccoilgpmaaGreatDoorRows
import Derived.Test.YtfmokccoilgpmaaGreatDoorLib
import Derived.JoinedCond
import Derived.Test.YtfmokccoilgpmaaGreatDoorEnv
import Derived.Deep.DeepHandedRow
import Derived.Shelf.Vars
namespace Go.Proofs.YtfmokccoilgpmaaGreatDoor
open Go.ChangeShapes Go.WideShapes Go.ChangeAt Go.RowKit Go.Own
open Go.ChangeMaps (open_string shut_string)

theorem own_knob : ownKnob Tryz.prog.godebug = none := by kernel_rfl
theorem laid_out : laidOutB Tryz.prog = true := by kernel_rfl

theorem bulk_one {H : Type} (d : DataW H) : 1 ≤ Rows.uptoBulk d := by
  cases d with
  | lit l => cases l <;> simp [Rows.uptoBulk]
  | nil => simp [Rows.uptoBulk]
  | ptr d => simp [Rows.uptoBulk]
  | slice elems spare => simp [Rows.uptoBulk]
  | agg parts => simp [Rows.uptoBulk]
  | iface t d => simp [Rows.uptoBulk]
  | map entries => simp [Rows.uptoBulk]
  | held h => simp [Rows.uptoBulk]
theorem bulk_length {H : Type} (l : List (DataW H)) : l.length ≤ Rows.uptoBulkAll l := by
  induction l with
  | nil => simp [Rows.uptoBulkAll]
  | cons x r ih => have := bulk_one x; simp only [Rows.uptoBulkAll, List.length_cons]; omega
theorem bulk_bound {H : Type} {l : List (DataW H)} (hk : Rows.uptoSmall H l = true) : Rows.uptoBulkAll l ≤ 1048576 := of_decide_eq_true hk

/-- the cells of a plain datum -/
def layData : Nat → DataW Unit → List Value
  | 0, _ => []
  | _ + 1, .lit (.int k n) => [.int k n]
  | _ + 1, .lit (.bool b) => [.bool b]
  | _ + 1, .lit (.string l) => [.string ⟨l.toArray⟩]
  | n + 1, .agg ds => ds.flatMap (layData n)
  | _ + 1, _ => []
/-- a world in which each listed variable holds what the list says -/
noncomputable def laying (laid : List (String × DataW Unit)) (w : World) : World :=
  laid.foldl (fun w x => match Tryz.prog.globalNamed x.1 with
    | some g => { w with heap := w.heap.modify g fun
        | .cells _ t fz => .cells (layData 5 x.2).toArray t fz
        | o => o }
    | none => w) w

theorem env_of {W : World} (h : W.ShapedOpen Tryz.prog) : Env W :=
  { ok := trivial
    max := Go.Proofs.cell_of_shapedOpen_int (zero := #[.int .i64 0]) (t := 3) h (of_decide_eq_true (by kernel_rfl)) (by kernel_rfl) rfl (by kernel_rfl) (by kernel_rfl) Tryz.underlying3 }

section
variable {H : Type} {enc : TypeId × Value → H} {P : Program}

theorem trodAll_below (hl : laidOutB P = true) {W W' : World} (hb : Below W.heap.size W W') : ∀ (ts : List TypeId), (∀ t ∈ ts, P.readableRec t = true ∧ t < P.types.size) → ∀ (vs : List Value) (ds : List (DataW H)) (p : List MemPlace),
    DataW.TrodAll enc P W 0 (fun _ => true) true ts vs ds p → DataW.TrodAll enc P W' 0 (fun b => decide (b < W.heap.size)) true ts vs ds p := by
  intro ts
  induction ts with
  | nil =>
    intro _ vs ds p h
    obtain ⟨rfl, rfl, rfl⟩ := trodAll_nil h
    exact trodAll_mk0
  | cons t ts ih =>
    intro ht vs ds p h
    obtain ⟨v, vs', d, ds', p', q, rfl, rfl, rfl, h1, h2⟩ := trodAll_cons h
    obtain ⟨hr, hs⟩ := ht t (List.mem_cons_self ..)
    have lt : ∀ x ∈ p', x.block < W.heap.size := by obtain ⟨m, hm⟩ := h1; exact DataW.trod_lt m _ _ _ hm
    exact trodAll_cons_mk (Below.trod hl hr hs h1 hb lt) (ih (fun t' h' => ht t' (List.mem_cons_of_mem _ h')) _ _ _ h2)

theorem RdC_of_cells {w : World} {a : Addr} {xs : List Value} (h : ∀ i (hi : i < xs.length), w.cell? (a.add i) = some xs[i]) : RdC w (some a) xs := by
  intro k hk
  have hc := h k hk
  have hspot : a.spot = none := by
    have := World.cell?_spot (h 0 (by omega))
    simpa [Addr.add] using this
  obtain ⟨b, off, spot⟩ := a
  simp only at hspot
  subst hspot
  exact ⟨b, off, rfl, by rw [← add_plain]; exact hc⟩

theorem open_bytes' {t e : TypeId} {W : World} {v : Value} {d : DataW H} {ps : List MemPlace} (ht : P.underlying t = some (.slice e)) (he : P.underlying e = some (.int .u8)) (hc : P.cellsOf e = 1)
    (hval : ∃ a n c, v = .slice a n c) (hd : DataW.Trod enc P W 0 (fun _ => true) true t v d ps) : ∃ l : List UInt8, RdB W v l ∧ l.length + 1 ≤ Rows.uptoBulk d := by
  obtain ⟨a0, len, cap, rfl⟩ := hval
  obtain ⟨fuel, hf⟩ := hd
  rcases open_ints ht he hc hf with ⟨hcs, hx⟩ | ⟨a, len', cap', zs, hcs, _, hl, hm, hz, hx, hcell, hwz⟩
  · simp [Value.cells] at hcs
    obtain ⟨rfl, rfl, rfl⟩ := hcs
    exact ⟨[], RdB_nil W, bulk_one _⟩
  · simp [Value.cells] at hcs
    obtain ⟨rfl, rfl, rfl⟩ := hcs
    simp only [Prod.mk.injEq] at hx
    obtain ⟨rfl, -⟩ := hx
    simp only [if_true] at hz
    have hlen : ((zs.take len).map fun n => UInt8.ofNat n.toNat).length = len := by simp; omega
    refine ⟨(zs.take len).map fun n => UInt8.ofNat n.toNat, RdB_of hlen.symm hl hm (by simp) ?_, ?_⟩
    · refine RdC_of_cells fun i hi => ?_
      rw [bytesV_length, hlen] at hi
      have hw := hwz zs[i] (List.getElem_mem (by omega))
      simp [Lit.wf, IntKind.min, IntKind.max, IntKind.signed, IntKind.bits] at hw
      have hn : (zs[i].toNat % 256 : Nat) = zs[i].toNat := Nat.mod_eq_of_lt (by omega)
      rw [hcell i (by omega)]
      simp [bytesV, byteV, List.getD, show i < zs.length by omega, hn]
      omega
    · have h1 := bulk_length (lits (H := H) .u8 (zs.take len))
      simp only [Rows.uptoBulk]
      simp only [lits, List.length_map] at h1 hlen ⊢
      omega

theorem open_bytes {t e : TypeId} {W : World} {r : Reach} {b0 : Nat} {v : Value} {d : DataW H} {ps : List MemPlace} (ht : P.underlying t = some (.slice e)) (he : P.underlying e = some (.int .u8)) (hc : P.cellsOf e = 1)
    (hval : Value.okWide P W r b0 t v) (hd : DataW.Trod enc P W 0 (fun _ => true) true t v d ps) : ∃ l : List UInt8, RdB W v l ∧ l.length + 1 ≤ Rows.uptoBulk d :=
  open_bytes' ht he hc (by obtain ⟨a0, len, cap, rfl⟩ := okWide_slice ht hval; exact ⟨_, _, _, rfl⟩) hd

theorem byte_of {n : Int} (h : (Lit.int .u8 n).wf = true) : ∃ c : UInt8, n = (c.toNat : Int) := by
  simp [Lit.wf, IntKind.min, IntKind.max, IntKind.signed, IntKind.bits] at h
  refine ⟨UInt8.ofNat n.toNat, ?_⟩
  have hn : n.toNat % 256 = n.toNat := Nat.mod_eq_of_lt (by omega)
  simp [hn]
  omega

theorem open_str {t : TypeId} {W : World} {r : Reach} {b0 : Nat} {v : Value} {d : DataW H} {ps : List MemPlace} (ht : P.underlying t = some .string)
    (hval : Value.okWide P W r b0 t v) (hd : DataW.Trod enc P W 0 (fun _ => true) true t v d ps) : ∃ s : ByteArray, v = .string s ∧ s.size + 1 ≤ Rows.uptoBulk d ∧ s.size ≤ maxLen := by
  obtain ⟨s, rfl, rfl, rfl, hs⟩ := open_string ht hval hd
  exact ⟨s, rfl, by rw [size_toList]; simp only [Rows.uptoBulk]; omega, hs⟩

theorem bulk_strs (l : List ByteArray) : Rows.uptoBulkAll (strs (H := H) l) = (l.map fun s => s.size + 1).sum := by
  induction l with
  | nil => simp [strs, Rows.uptoBulkAll]
  | cons x r ih =>
    have e : strs (H := H) (x :: r) = .lit (.string x.data.toList) :: strs r := rfl
    rw [e]
    simp only [Rows.uptoBulkAll, Rows.uptoBulk, ih, List.map_cons, List.sum_cons]
    rw [size_toList]

theorem open_strsl {t e : TypeId} {W : World} {r : Reach} {b0 : Nat} {v : Value} {d : DataW H} {ps : List MemPlace} (ht : P.underlying t = some (.slice e)) (he : P.underlying e = some .string) (hc : P.cellsOf e = 1)
    (hval : Value.okWide P W r b0 t v) (hd : DataW.Trod enc P W 0 (fun _ => true) true t v d ps) : ∃ l : List ByteArray, RdS W v l ∧ (l.map fun s => s.size + 1).sum + 1 ≤ Rows.uptoBulk d ∧ ∀ s ∈ l, s.size ≤ maxLen := by
  obtain ⟨a0, len, cap, rfl⟩ := okWide_slice ht hval
  obtain ⟨fuel, hf⟩ := hd
  rcases open_strings ht he hc hf with ⟨hcs, hx⟩ | ⟨a, len', cap', zs, hcs, _, hl, hm, hz, hx, hcell, hwz⟩
  · simp [Value.cells] at hcs
    obtain ⟨rfl, rfl, rfl⟩ := hcs
    exact ⟨[], RdS_nil W, bulk_one _, by simp⟩
  · simp [Value.cells] at hcs
    obtain ⟨rfl, rfl, rfl⟩ := hcs
    simp only [Prod.mk.injEq] at hx
    obtain ⟨rfl, -⟩ := hx
    simp only [if_true] at hz
    have hlen : (zs.take len).length = len := by simp; omega
    refine ⟨zs.take len, ⟨some a, cap, by rw [hlen], by omega, hm, by simp, ?_⟩, ?_, fun s hs => hwz s (List.mem_of_mem_take hs)⟩
    · refine RdC_of_cells fun i hi => ?_
      rw [strsV_length, hlen] at hi
      rw [hcell i (by omega)]
      simp [strsV, List.getD, show i < zs.length by omega]
    · simp only [Rows.uptoBulk]
      rw [bulk_strs]
      omega

end
end Go.Proofs.YtfmokccoilgpmaaGreatDoor
