/- The core of RouteNoCanary; what the cores of layer 29 share. -/
import Derived.Test.YtfmokccoilgpmaaGreatDoorMk29
import Derived.Test.YtfmokccoilgpmaaGreatDoorAw29
namespace Go.Proofs.YtfmokccoilgpmaaGreatDoor
open Go.RowKit Go.Own
set_option linter.unusedVariables false
set_option linter.unusedSimpArgs false
set_option maxHeartbeats 4000000
set_option maxRecDepth 100000

theorem chooseC_calls (c : Cf) (vw vig : Value) (CA : Array Value) (hCA : CA = (c.cells vw vig).toArray) (st sg he t er ag : Int) (va : Value) (l : List Fld) (draw serial : Int) (w : World) (hE : EnvP w)
    (Hp : RdI w vw c.P.ws) (Ha : RdF w va l) (hl : fsize l ≤ 2000000) (hsalt : c.salt.size ≤ 1) (hd : In64 draw) (hs : In64 serial) :
    Calls Tryz.prog 9 #[.agg CA, .agg #[.int .i64 st, .int .i64 sg, .int .i64 he, .int .i64 t, .int .i64 er, .int .i64 ag], va, .int .i64 draw, .int .i64 serial] w fun e w' => e = .returned (routeV c.salt (rollW st sg c.P) (findP (pairsS (valuesS l cookieS)) ⟨#[99, 111, 104, 111, 114, 116]⟩) (nidOf draw serial)) ∧ Below w.heap.size w w' := by
  subst hCA
  exact choose_calls c.a0 c.a1 c.a2 c.a3 c.a4 c.a5 c.a6 c.a7 c.a8 c.a9 c.a10 c.a11 c.a12 c.a13 c.a14 c.a15 c.P vw c.salt ⟨#[99, 111, 104, 111, 114, 116]⟩ c.mir vig st sg he t er ag va l draw serial w hE Hp Ha hl (by unfold maxLen; omega) hd hs
theorem three_rows (w1 : World) (z1 z2 z3 c1 c2 c3 : Array Value) (t1 t2 t3 : TypeId) (W : World) (hW : W = ((((((w1.alloc (.cells z1 t1)).alloc (.cells z2 t2)).alloc (.cells z3 t3)).setRow w1.heap.size c1).setRow (w1.heap.size + 1) c2).setRow (w1.heap.size + 1 + 1) c3)) :
    W.heap[w1.heap.size]? = some (.cells c1 t1) ∧ W.heap[w1.heap.size + 1]? = some (.cells c2 t2) ∧ W.heap[w1.heap.size + 1 + 1]? = some (.cells c3 t3) ∧ Below w1.heap.size w1 W := by
  subst hW
  obtain ⟨h1, h2, h3⟩ := heap_three w1 (.cells z1 t1) (.cells z2 t2) (.cells z3 t3)
  have hb := (box_two (w1 := w1) (.cells z1 t1) (.cells z2 t2)).alloc (by simp; omega) (.cells z3 t3)
  generalize ((w1.alloc (.cells z1 t1)).alloc (.cells z2 t2)).alloc (.cells z3 t3) = W3 at *
  refine ⟨?_, ?_, ?_, below_setRow (below_setRow (below_setRow hb _ _ (Nat.le_refl _)) _ _ (by omega)) _ _ (by omega)⟩
  · rw [heap_setRow_other _ _ _ _ (by omega), heap_setRow_other _ _ _ _ (by omega)]; exact setRow_heap _ _ _ _ _ _ h1
  · rw [heap_setRow_other _ _ _ _ (by omega)]; exact setRow_heap _ _ _ _ _ _ (by rw [heap_setRow_other _ _ _ _ (by omega)]; exact h2)
  · exact setRow_heap _ _ _ _ _ _ (by rw [heap_setRow_other _ _ _ _ (by omega), heap_setRow_other _ _ _ _ (by omega)]; exact h3)
theorem three_at (w1 : World) (z1 z2 z3 c1 c2 : Array Value) (t1 t2 t3 : TypeId) :
    (((w1.alloc (.cells z1 t1)).alloc (.cells z2 t2)).alloc (.cells z3 t3)).heap[w1.heap.size]? = some (.cells z1 t1) ∧
    ((((w1.alloc (.cells z1 t1)).alloc (.cells z2 t2)).alloc (.cells z3 t3)).setRow w1.heap.size c1).heap[w1.heap.size + 1]? = some (.cells z2 t2) ∧
    (((((w1.alloc (.cells z1 t1)).alloc (.cells z2 t2)).alloc (.cells z3 t3)).setRow w1.heap.size c1).setRow (w1.heap.size + 1) c2).heap[w1.heap.size + 1 + 1]? = some (.cells z3 t3) := by
  obtain ⟨h1, h2, h3⟩ := heap_three w1 (.cells z1 t1) (.cells z2 t2) (.cells z3 t3)
  refine ⟨h1, ?_, ?_⟩
  · rw [heap_setRow_other _ _ _ _ (by omega)]; exact h2
  · rw [heap_setRow_other _ _ _ _ (by omega), heap_setRow_other _ _ _ _ (by omega)]; exact h3
/-- the three blocks that hold what made hands back -/
structure Md3 (w1 W : World) (CA : Array Value) (q1 q2 q3 q4 q5 q6 : Int) (mm t : ByteArray) (n : Int) (vf : Value) (fr : Bool) (vy : Value) : Prop where
  conf : W.heap[w1.heap.size]? = some (.cells CA 28)
  roll : W.heap[w1.heap.size + 1]? = some (rollO q1 q2 q3 q4 q5 q6)
  req : W.heap[w1.heap.size + 1 + 1]? = some (reqO mm t n vf fr vy)
  hb : Below w1.heap.size w1 W

theorem reqP_fsize {m t : ByteArray} {x : List Fld} (h : ReqP m t x) : fsize x ≤ 1000 := by
  obtain ⟨-, -, h3, h4⟩ := h
  have : ∀ l : List Fld, (∀ f ∈ l, f.name.size ≤ 15 ∧ f.val.size ≤ 28) → fsize l ≤ 45 * l.length := by
    intro l
    induction l with
    | nil => intro _; simp [fsize]
    | cons f l ih =>
      intro h
      have h1 := ih (fun g hg => h g (List.mem_cons_of_mem _ hg))
      have h2 := h f (List.mem_cons_self ..)
      simp only [fsize, List.map_cons, List.sum_cons, List.length_cons] at h1 ⊢
      omega
  have := this x h4
  omega

theorem routeNoCanary_core (va vb : Value) (l m : List Int) (draw serial : Int) (w : World) (hE : EnvP w) (h1 : RdI w va l) (h2 : RdI w vb m) (hd : In64 draw) (hs : In64 serial) :
    Calls Tryz.prog 5 #[va, vb, .int .i64 draw, .int .i64 serial] w fun e w' => e = .returned (.bool true) ∧ Below w.heap.size w w' := by
  have HM := Lib.hid (made29_calls va vb l m w h1 h2)
  go_enter Tryz.func5, Tryz.ntmps5
  go_wp2_with fail
  refine HM.out.mono ?_
  rintro e w1 ⟨⟨C, vw, vig, q1, q2, q3, q4, q5, q6, mm, t, n, vf, x, fr, vy, b, rfl, hpw, ⟨hsalt, hvig⟩, hrq, hrf, hry⟩, hb1⟩
  have hvw : vw.oneCell' = true := by obtain ⟨⟨a, c, rfl, -⟩, -⟩ := hpw; rfl
  obtain ⟨CA, hCA⟩ : ∃ CA : Array Value, CA = (C.cells vw vig).toArray := ⟨_, rfl⟩
  obtain ⟨af, cf, rfl, -, -, -, -⟩ := id hrf
  obtain ⟨ay, cy, rfl, -, -, -, -⟩ := id hry
  have hfa := Lib.hid (cfFacts C vw vig hvw hvig)
  rw [← hCA] at hfa ⊢
  have HCA := Lib.hid hCA
  clear hCA
  have hi26 := Lib.hid (show (Tryz.prog.info? 28).map (·.size) = some CA.size by rw [hfa.out.1]; kernel_rfl)
  have H3 := Lib.hid (three_at w1 #[.int .i64 0, .int .i64 0, .int .i64 0, .int .i64 0, .int .i64 0, .int .i64 0, .int .i64 0, .int .i64 0, .int .i64 0, .int .i64 0, .int .i64 0, .int .i64 0, .int .i64 0, .int .i64 0, .int .i64 0, .int .i64 0, .slice none 0 0, .int .i64 0, .int .i64 0, .int .i64 0, .int .i64 0, .int .i64 0, .string ⟨#[]⟩, .string ⟨#[]⟩, .bool false, .slice none 0 0] #[.int .i64 0, .int .i64 0, .int .i64 0, .int .i64 0, .int .i64 0, .int .i64 0] #[.string ⟨#[]⟩, .string ⟨#[]⟩, .int .i64 0, .slice none 0 0, .bool false, .slice none 0 0] CA #[.int .i64 q1, .int .i64 q2, .int .i64 q3, .int .i64 q4, .int .i64 q5, .int .i64 q6] 28 32 35)
  have HM3 := Lib.hid (fun W hW => three_rows w1 #[.int .i64 0, .int .i64 0, .int .i64 0, .int .i64 0, .int .i64 0, .int .i64 0, .int .i64 0, .int .i64 0, .int .i64 0, .int .i64 0, .int .i64 0, .int .i64 0, .int .i64 0, .int .i64 0, .int .i64 0, .int .i64 0, .slice none 0 0, .int .i64 0, .int .i64 0, .int .i64 0, .int .i64 0, .int .i64 0, .string ⟨#[]⟩, .string ⟨#[]⟩, .bool false, .slice none 0 0] #[.int .i64 0, .int .i64 0, .int .i64 0, .int .i64 0, .int .i64 0, .int .i64 0] #[.string ⟨#[]⟩, .string ⟨#[]⟩, .int .i64 0, .slice none 0 0, .bool false, .slice none 0 0] CA #[.int .i64 q1, .int .i64 q2, .int .i64 q3, .int .i64 q4, .int .i64 q5, .int .i64 q6] #[.string mm, .string t, .int .i64 n, .slice af x.length cf, .bool fr, .slice ay b.length cy] 28 32 35 W hW)
  have HPW := Lib.hid hpw
  have HRF := Lib.hid hrf
  have HB1 := Lib.hid hb1
  clear hry hvw HM hpw hrf hb1
  go_upto_region 2 with (first
    | (refine wpList_store_row (o := ⟨none, _, _, _, _, _⟩) rfl 28 (.tmp 9) (.tmp 18) rfl w1.heap.size CA rfl rfl 28 _ H3.out.1 hi26.out hfa.out.1.symm hfa.out.2.1 ?_; simp only [Act.put])
    | (refine wpList_store_row (o := ⟨none, _, _, _, _, _⟩) rfl 32 (.tmp 10) (.tmp 19) rfl (w1.heap.size + 1) #[.int .i64 q1, .int .i64 q2, .int .i64 q3, .int .i64 q4, .int .i64 q5, .int .i64 q6] rfl rfl 32 _ H3.out.2.1 (by kernel_rfl) rfl (by kernel_rfl) ?_; simp only [Act.put])
    | (refine wpList_store_row (o := ⟨none, _, _, _, _, _⟩) rfl 35 (.tmp 11) (.tmp 20) rfl (w1.heap.size + 1 + 1) #[.string mm, .string t, .int .i64 n, .slice af x.length cf, .bool fr, .slice ay b.length cy] rfl rfl 35 _ H3.out.2.2 (by kernel_rfl) rfl (by kernel_rfl) ?_; simp only [Act.put]))
  have M3 := HM3.out _ rfl
  clear HM3 H3
  generalize ((((((w1.alloc (.cells #[.int .i64 0, .int .i64 0, .int .i64 0, .int .i64 0, .int .i64 0, .int .i64 0, .int .i64 0, .int .i64 0, .int .i64 0, .int .i64 0, .int .i64 0, .int .i64 0, .int .i64 0, .int .i64 0, .int .i64 0, .int .i64 0, .slice none 0 0, .int .i64 0, .int .i64 0, .int .i64 0, .int .i64 0, .int .i64 0, .string ⟨#[]⟩, .string ⟨#[]⟩, .bool false, .slice none 0 0] 28)).alloc (.cells #[.int .i64 0, .int .i64 0, .int .i64 0, .int .i64 0, .int .i64 0, .int .i64 0] 32)).alloc (.cells #[.string ⟨#[]⟩, .string ⟨#[]⟩, .int .i64 0, .slice none 0 0, .bool false, .slice none 0 0] 35)).setRow w1.heap.size CA).setRow (w1.heap.size + 1) #[.int .i64 q1, .int .i64 q2, .int .i64 q3, .int .i64 q4, .int .i64 q5, .int .i64 q6]).setRow (w1.heap.size + 1 + 1) #[.string mm, .string t, .int .i64 n, .slice af x.length cf, .bool fr, .slice ay b.length cy]) = w2 at *
  have HA : Md3 w1 w2 CA q1 q2 q3 q4 q5 q6 mm t n (.slice af x.length cf) fr (.slice ay b.length cy) := ⟨M3.1, M3.2.1, M3.2.2.1, M3.2.2.2⟩
  have HB2 := Lib.hid (Below.self_trans HB1.out HA.hb)
  have HPW2 := Lib.hid (HPW.out.below HA.hb)
  have HRF2 := Lib.hid (HRF.out.below HA.hb)
  have hrow := HA.roll
  have hreq := HA.req
  have HCF := Lib.hid HA.conf
  have HFS := Lib.hid (reqP_fsize hrq)
  clear M3 HA HPW HRF HB1
  generalize w1.heap.size = z at *
  unfold rollO at hrow
  unfold reqO at hreq
  obtain ⟨⟨c0, c1, c2, c3, c4, c5⟩, -, -⟩ := row6 hrow
  obtain ⟨⟨d0, d1, d2, d3, d4, d5⟩, -, -⟩ := row6 hreq
  have HROW := Lib.hid hrow
  clear hrow hreq
  have HCH := Lib.hid (chooseC_calls C vw vig CA HCA.out q1 q2 q3 q4 q5 q6 _ x draw serial w2 (hE.below HB2.out) HPW2.out HRF2.out (by have := HFS.out; omega) hsalt hd hs)
  obtain ⟨kk, ci, nw, hrv, hk1, hk2⟩ : ∃ kk ci nw, routeV C.salt (rollW q1 q2 C.P) (findP (pairsS (valuesS x cookieS)) ⟨#[99, 111, 104, 111, 114, 116]⟩) (nidOf draw serial) = .agg #[.int .i64 kk, .string ci, .bool nw] ∧ (q1 = 0 ∨ q1 = 3 → kk = 4) ∧ (q1 = 2 → kk = 5) :=
    ⟨_, _, _, rfl, fun h => by rcases h with rfl | rfl <;> exact class_none _ _, fun h => by subst h; exact class_all _ _⟩
  rw [hrv] at HCH
  clear hrv
  go_wp2_with (refine wpList_load_row (o := ⟨some 21, _, _, _, _, _⟩) rfl 28 _ rfl z rfl 28 _ (0, 0) _ HCF.out Tryz.underlying28 rfl hi26.out ?_; simp only [Act.put])
  refine HCH.out.mono ?_
  rintro e w3 ⟨rfl, hb3⟩
  have HB3 := Lib.hid (Below.self_trans HB2.out hb3)
  have HK1 := Lib.hid hk1
  have HK2 := Lib.hid hk2
  have hr3 := row_below HROW.out hb3
  have HR3 := Lib.hid hr3
  have HE3 := Lib.hid (fun W hb => awake29_calls W (hE.below (Below.self_trans HB3.out hb)))
  clear HCH hb3 HB2 HROW hk1 hk2 c0 c1 c2 c3 c4 c5 d0 d1 d2 d3 d4 d5 HCF HPW2 HRF2 hr3
  go_upto_region 3 with fail
  have hx4 := (Below.refl w3.heap.size w3).alloc (Nat.le_refl _) (.cells #[.int .i64 kk, .string ci, .bool nw] 40)
  have HB4 := Lib.hid (Below.self_trans HB3.out hx4)
  obtain ⟨⟨k0, k1, k2⟩, -, -⟩ := row3 (heap_alloc_new w3 (.cells #[.int .i64 kk, .string ci, .bool nw] 40))
  obtain ⟨⟨c0, c1, c2, c3, c4, c5⟩, -, -⟩ := row6 (row_below HR3.out hx4)
  have HAW := Lib.hid (HE3.out _ hx4)
  clear HR3 HE3 hx4 HB3
  generalize w3.heap.size = g3 at *
  generalize w3.alloc (.cells #[.int .i64 kk, .string ci, .bool nw] 40) = w4 at *
  by_cases e0 : q1 = 0
  · subst e0
    obtain rfl := HK1.out (Or.inl rfl)
    clear HK1 HK2
    go_wp2_with fail
    refine HAW.out.mono ?_
    rintro e w5 ⟨rfl, hb5⟩
    have HB5 := Lib.hid (Below.self_trans HB4.out hb5)
    clear HAW hb5 HB4
    go_wp2
    go_ret
    exact ⟨rfl, HB5.out⟩
  · by_cases e3 : q1 = 3
    · subst e3
      obtain rfl := HK1.out (Or.inr rfl)
      clear HK1 HK2
      go_wp2_with fail
      refine HAW.out.mono ?_
      rintro e w5 ⟨rfl, hb5⟩
      have HB5 := Lib.hid (Below.self_trans HB4.out hb5)
      clear HAW hb5 HB4
      go_wp2
      go_ret
      exact ⟨rfl, HB5.out⟩
    · have n0 : (q1 == 0) = false := by simpa using e0
      have n3 : (q1 == 3) = false := by simpa using e3
      clear e0 e3 HK1
      by_cases e2 : q1 = 2
      · subst e2
        obtain rfl := HK2.out rfl
        clear HK2 n0 n3
        go_wp2_with fail
        refine HAW.out.mono ?_
        rintro e w5 ⟨rfl, hb5⟩
        have HB5 := Lib.hid (Below.self_trans HB4.out hb5)
        clear HAW hb5 HB4
        go_wp2
        go_ret
        exact ⟨rfl, HB5.out⟩
      · have n2 : (q1 == 2) = false := by simpa using e2
        have n2' : (q1 != 2) = true := by simp [e2]
        clear e2 HK2
        go_wp2_with fail
        refine HAW.out.mono ?_
        rintro e w5 ⟨rfl, hb5⟩
        have HB5 := Lib.hid (Below.self_trans HB4.out hb5)
        clear HAW hb5 HB4
        go_wp2
        go_ret
        exact ⟨rfl, HB5.out⟩
end Go.Proofs.YtfmokccoilgpmaaGreatDoor
