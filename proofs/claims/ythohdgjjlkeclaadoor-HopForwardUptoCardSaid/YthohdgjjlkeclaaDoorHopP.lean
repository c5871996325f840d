/- Plain laws on the fields of one hop: Strip, Via, joined. No program stands here. -/
import Derived.Test.YthohdgjjlkeclaaDoorRefV
import Derived.Test.YthohdgjjlkeclaaDoorW06
import Derived.Lib.Join
namespace Go.Own
open Go.Proofs.YthohdgjjlkeclaaDoor
set_option linter.unusedVariables false

def sConn : ByteArray := ⟨#[67, 111, 110, 110, 101, 99, 116, 105, 111, 110]⟩
def sHost : ByteArray := ⟨#[72, 111, 115, 116]⟩
def sCook : ByteArray := ⟨#[67, 111, 111, 107, 105, 101]⟩
def sVia : ByteArray := ⟨#[86, 105, 97]⟩
def sSelf : ByteArray := ⟨#[49, 46, 49, 32, 99, 97, 110, 97, 114, 121]⟩
def sXFF : ByteArray := ⟨#[88, 45, 70, 111, 114, 119, 97, 114, 100, 101, 100, 45, 70, 111, 114]⟩
/-- the names that are always meant for one hop, as the package has them, and as the reference has them -/
def fixedU : List ByteArray := [sConn, ⟨#[75, 101, 101, 112, 45, 65, 108, 105, 118, 101]⟩, ⟨#[80, 114, 111, 120, 121, 45, 67, 111, 110, 110, 101, 99, 116, 105, 111, 110]⟩, ⟨#[84, 69]⟩, ⟨#[84, 114, 97, 105, 108, 101, 114]⟩, ⟨#[84, 114, 97, 110, 115, 102, 101, 114, 45, 69, 110, 99, 111, 100, 105, 110, 103]⟩, ⟨#[85, 112, 103, 114, 97, 100, 101]⟩, ⟨#[69, 120, 112, 101, 99, 116]⟩, ⟨#[67, 111, 110, 116, 101, 110, 116, 45, 76, 101, 110, 103, 116, 104]⟩]
def fixedL : List ByteArray := fixedU.map lowerB
theorem fixedL_lit : fixedL = [⟨#[99, 111, 110, 110, 101, 99, 116, 105, 111, 110]⟩, ⟨#[107, 101, 101, 112, 45, 97, 108, 105, 118, 101]⟩, ⟨#[112, 114, 111, 120, 121, 45, 99, 111, 110, 110, 101, 99, 116, 105, 111, 110]⟩, ⟨#[116, 101]⟩, ⟨#[116, 114, 97, 105, 108, 101, 114]⟩, ⟨#[116, 114, 97, 110, 115, 102, 101, 114, 45, 101, 110, 99, 111, 100, 105, 110, 103]⟩, ⟨#[117, 112, 103, 114, 97, 100, 101]⟩, ⟨#[101, 120, 112, 101, 99, 116]⟩, ⟨#[99, 111, 110, 116, 101, 110, 116, 45, 108, 101, 110, 103, 116, 104]⟩] := by decide +kernel
def endF (s : ByteArray) : Bool := foldB s sHost || foldB s sCook
def connE (l : List Fld) : List ByteArray := elemsS (valuesS l sConn)
def stripN (l : List Fld) : List ByteArray := fixedU ++ (connE l).filter fun s => !endF s
def stripS (l : List Fld) : List Fld := withoutS l (stripN l)
def joinS (l : List ByteArray) : ByteArray := bs (Lib.join (l.map bl) [44, 32])
def joinedS (l : List Fld) (n m : ByteArray) : List Fld := withoutS l [n] ++ [⟨n, joinS (elemsS (valuesS l n) ++ [m])⟩]
def viaS (l : List Fld) : List Fld := joinedS l sVia sSelf

theorem foldB_lower (a b : ByteArray) : foldB (lowerB a) b = foldB a b := by
  rw [← foldB_seq, ← foldB_seq, lowerB_lowerB]
theorem inFold_lower (l : List ByteArray) (s : ByteArray) : inFold (l.map lowerB) s = inFold l s := by
  induction l with
  | nil => rfl
  | cons x r ih => simp only [inFold, List.map_cons, List.any_cons, foldB_lower] at ih ⊢; rw [ih]
theorem inFold_append (a b : List ByteArray) (s : ByteArray) : inFold (a ++ b) s = (inFold a s || inFold b s) := List.any_append
/-- the names in the reference's spelling take the same fields out -/
theorem strip_lower (l : List Fld) (x : List ByteArray) : withoutS l (fixedL ++ x) = withoutS l (fixedU ++ x) := by
  unfold withoutS
  refine List.filter_congr fun f _ => ?_
  rw [inFold_append, inFold_append, fixedL, inFold_lower]
theorem withoutS_sub {l : List Fld} {n : List ByteArray} : ∀ f ∈ withoutS l n, f ∈ l := fun f h => (List.mem_filter.1 h).1
theorem withoutS_not {l : List Fld} {n : List ByteArray} : ∀ f ∈ withoutS l n, inFold n f.name = false := fun f h => by simpa using (List.mem_filter.1 h).2
theorem withoutS_id {l : List Fld} {n : List ByteArray} (h : ∀ f ∈ l, inFold n f.name = false) : withoutS l n = l := List.filter_eq_self.2 fun f hf => by rw [h f hf]; rfl
theorem withoutS_length (l : List Fld) (n : List ByteArray) : (withoutS l n).length ≤ l.length := List.length_filter_le _ _
theorem valuesS_none {l : List Fld} {n : ByteArray} (h : ∀ f ∈ l, foldB f.name n = false) : valuesS l n = [] := by
  unfold valuesS
  rw [List.map_eq_nil_iff, List.filter_eq_nil_iff]
  intro f hf
  rw [h f hf]; decide
/-- stripping twice changes nothing -/
theorem strip_strip (l : List Fld) : stripS (stripS l) = stripS l := by
  have hn : ∀ f ∈ stripS l, inFold fixedU f.name = false := by
    intro f hf
    have := withoutS_not f hf
    rw [stripN, inFold_append, Bool.or_eq_false_iff] at this
    exact this.1
  have hc : ∀ f ∈ stripS l, foldB f.name sConn = false := by
    intro f hf
    have := hn f hf
    rw [foldB_comm]
    cases h : foldB sConn f.name with
    | false => rfl
    | true => rw [inFold_at fixedU f.name 0 (by decide) h] at this; cases this
  conv => lhs; rw [stripS]
  rw [stripN, connE, valuesS_none hc, show elemsS [] = [] from rfl, List.filter_nil, List.append_nil]
  exact withoutS_id hn

theorem splitBy_sum (c : UInt8) (l : List UInt8) : ((splitBy c l).map fun p => p.length + 1).sum = l.length + 1 := by
  induction l with
  | nil => rfl
  | cons x r ih =>
    unfold splitBy
    split
    · simp only [List.map_cons, List.sum_cons, ih, List.length_nil, List.length_cons]; omega
    · obtain ⟨h, t, e⟩ := splitBy_ne c r
      rw [e] at ih ⊢
      simp only [List.map_cons, List.sum_cons, List.length_cons, List.headD_cons, List.tail_cons] at ih ⊢
      omega
theorem sum_filter_le {α : Type} (p : α → Bool) (f : α → Nat) (l : List α) : ((l.filter p).map f).sum ≤ (l.map f).sum := by
  induction l with
  | nil => exact Nat.le_refl _
  | cons x r ih =>
    rw [List.filter_cons]
    split <;> simp only [List.map_cons, List.sum_cons] <;> omega
theorem trim_le (l : List UInt8) : (trim l).length ≤ l.length := by
  have h := trimB_size (bs l)
  unfold trimB at h
  rw [bl_bs, bs_size, bs_size] at h
  exact h
theorem listOf_sum (l : List UInt8) : ((listOf l).map fun p => p.length + 1).sum ≤ l.length + 1 := by
  refine Nat.le_trans (sum_filter_le _ _ _) ?_
  rw [← splitBy_sum 44 l, List.map_map]
  generalize splitBy 44 l = q
  induction q with
  | nil => exact Nat.le_refl _
  | cons x r ih => have := trim_le x; simp only [List.map_cons, List.sum_cons, Function.comp] at ih ⊢; omega
theorem elemsS_sum (l : List ByteArray) : ((elemsS l).map fun s => s.size + 1).sum ≤ (l.map fun s => s.size + 1).sum := by
  induction l with
  | nil => exact Nat.le_refl _
  | cons x r ih =>
    have e : elemsS (x :: r) = (listOf (bl x)).map bs ++ elemsS r := by simp [elemsS, elems]
    have h := listOf_sum (bl x)
    rw [e, List.map_append, List.sum_append, List.map_map, List.map_cons, List.sum_cons]
    have h2 : ((listOf (bl x)).map ((fun s : ByteArray => s.size + 1) ∘ bs)) = (listOf (bl x)).map fun p => p.length + 1 := List.map_congr_left fun p _ => by simp [bs_size]
    rw [h2]
    rw [bl_length] at h
    omega
theorem joinS_size (l : List ByteArray) : (joinS l).size ≤ 2 * (l.map fun s => s.size + 1).sum := by
  unfold joinS
  rw [bs_size]
  cases l with
  | nil => exact Nat.zero_le _
  | cons x r =>
    rw [List.map_cons, Lib.join_cons, List.length_append, Lib.joinTail_length, bl_length, List.map_cons, List.sum_cons, List.length_map]
    have : Lib.lens (r.map bl) + r.length ≤ (r.map fun s => s.size + 1).sum := by
      unfold Lib.lens
      induction r with
      | nil => exact Nat.le_refl _
      | cons y r ih => simp only [List.map_cons, List.sum_cons, List.length_cons, bl_length] at ih ⊢; omega
    simp only [List.length_cons, List.length_nil]
    omega
theorem fsize_append (a b : List Fld) : fsize (a ++ b) = fsize a + fsize b := by unfold fsize; rw [List.map_append, List.sum_append]
theorem fsize_without (l : List Fld) (n : List ByteArray) : fsize (withoutS l n) ≤ fsize l := sum_filter_le _ _ _
theorem joined_sum (l : List Fld) (n m : ByteArray) : ((elemsS (valuesS l n) ++ [m]).map fun s => s.size + 1).sum ≤ fsize l + m.size + 1 := by
  have h1 := elemsS_sum (valuesS l n)
  have h2 := valuesS_sum l n
  rw [List.map_append, List.sum_append]
  simp only [List.map_cons, List.map_nil, List.sum_cons, List.sum_nil]
  omega
theorem joined_fsize (l : List Fld) (n m : ByteArray) : fsize (joinedS l n m) ≤ 3 * fsize l + n.size + 2 * m.size + 4 := by
  unfold joinedS
  rw [fsize_append]
  have h1 := fsize_without l [n]
  have h2 := joinS_size (elemsS (valuesS l n) ++ [m])
  have h3 := joined_sum l n m
  have h4 : fsize [(⟨n, joinS (elemsS (valuesS l n) ++ [m])⟩ : Fld)] = n.size + (joinS (elemsS (valuesS l n) ++ [m])).size + 2 := rfl
  omega
theorem foldB_lowerR (a b : ByteArray) : foldB a (lowerB b) = foldB a b := by rw [foldB_comm, foldB_lower, foldB_comm]
theorem valuesS_lower (l : List Fld) (n : ByteArray) : valuesS l (lowerB n) = valuesS l n := by
  unfold valuesS
  congr 1
  refine List.filter_congr fun f _ => ?_
  rw [foldB_lowerR]
theorem filter_take {α : Type} (p : α → Bool) (l : List α) (k : Nat) (h : k < l.length) : (l.take (k + 1)).filter p = (l.take k).filter p ++ (if p l[k] then [l[k]] else []) := by
  rw [List.take_succ_eq_append_getElem h, List.filter_append]
  congr 1
  cases hp : p l[k] <;> simp [hp]
end Go.Own
