/- awake of layer 29. -/
import Derived.Test.YtfmokccoilgpmaaGreatDoorSConf
import Derived.Test.YtfmokccoilgpmaaGreatDoorProb
namespace Go.Proofs.YtfmokccoilgpmaaGreatDoor
open Go.RowKit Go.Own
set_option linter.unusedVariables false
set_option maxHeartbeats 4000000
set_option maxRecDepth 100000

def ckF : Fld := ⟨⟨#[67, 111, 111, 107, 105, 101]⟩, ⟨#[99, 111, 104, 111, 114, 116, 61, 48, 49, 50, 51, 52, 53, 54, 55, 56, 57, 97, 98, 99, 100, 101, 102]⟩⟩
theorem ck_find : findP (pairsS (valuesS [ckF] cookieS)) ⟨#[99, 111, 104, 111, 114, 116]⟩ = some ⟨⟨#[99, 111, 104, 111, 114, 116]⟩, ⟨#[48, 49, 50, 51, 52, 53, 54, 55, 56, 57, 97, 98, 99, 100, 101, 102]⟩⟩ := by decide +kernel
theorem nil_find (c : ByteArray) : findP (pairsS (valuesS [] cookieS)) c = none := rfl
theorem class_all (salt id : ByteArray) : classI salt id 10000 = 5 := by
  obtain ⟨h1, h2⟩ := bucketI_bd salt id
  unfold classI canB
  rw [decide_eq_true h1, decide_eq_true h2]; rfl
theorem class_none (salt id : ByteArray) : classI salt id 0 = 4 := by
  obtain ⟨h1, h2⟩ := bucketI_bd salt id
  unfold classI canB
  rw [decide_eq_false (show ¬ bucketI salt id < 0 by omega), Bool.and_false]; rfl
theorem route_x (salt nid : ByteArray) (P : Pl) (sg : Int) (c : ByteArray) : routeV salt (rollW 2 sg P) (findP (pairsS (valuesS [] cookieS)) c) nid = .agg #[.int .i64 5, .string nid, .bool true] := by
  rw [nil_find]
  show Value.agg #[.int .i64 (classI salt nid 10000), .string nid, .bool true] = _
  rw [class_all]
theorem route_y (salt nid : ByteArray) (P : Pl) (sg : Int) : routeV salt (rollW 0 sg P) (findP (pairsS (valuesS [ckF] cookieS)) ⟨#[99, 111, 104, 111, 114, 116]⟩) nid = .agg #[.int .i64 4, .string ⟨#[48, 49, 50, 51, 52, 53, 54, 55, 56, 57, 97, 98, 99, 100, 101, 102]⟩, .bool false] := by
  rw [ck_find]
  have h : idB ⟨#[48, 49, 50, 51, 52, 53, 54, 55, 56, 57, 97, 98, 99, 100, 101, 102]⟩ = true := by decide +kernel
  unfold routeV chosenI newI
  simp only [h, if_true, Bool.not_true]
  show Value.agg #[.int .i64 (classI salt _ 0), _, _] = _
  rw [class_none]

theorem awake29_calls (w : World) (hE : EnvP w) : Calls Tryz.prog 8 #[] w fun e w' => e = .returned (.bool true) ∧ Below w.heap.size w w' := by
  have HS := Lib.hid (src_new w none [] 0 (fun k hk => absurd hk (Nat.not_lt_zero _)) (Nat.le_refl _) (by simp [maxLen]) (fun _ => rfl) (by simp))
  have HB0 := (Below.refl w.heap.size w).alloc (Nat.le_refl _) (.cells #[.slice none 0 0, .int .i64 0] 60)
  go_enter Tryz.func8, Tryz.ntmps8
  go_wp2_with fail
  refine (sconf_calls _ [] _ HS.out).mono ?_
  rintro e w1 ⟨⟨a0, a1, a2, a3, a4, a5, a6, a7, a8, a9, a10, a11, a12, a13, a14, a15, vw, P, salt, mir, vig, rfl, hrd, hown, hsz, hvi⟩, hg, hs1⟩
  have HB1 := below_src HB0 hg (Nat.le_refl _)
  obtain ⟨av, cv, rfl, -, -, -⟩ := owned_slice hown
  have hone := Lib.hid (confCells_one a0 a1 a2 a3 a4 a5 a6 a7 a8 a9 a10 a11 a12 a13 a14 a15 (.slice av P.ws.length cv) P salt mir vig rfl hvi)
  have hnew := Lib.hid (heap_alloc_new w1 zconf)
  unfold confCells at hone
  unfold zconf at hnew
  have hx := (Below.refl w1.heap.size w1).alloc (Nat.le_refl _) (.cells #[.int .i64 a0, .int .i64 a1, .int .i64 a2, .int .i64 a3, .int .i64 a4, .int .i64 a5, .int .i64 a6, .int .i64 a7, .int .i64 a8, .int .i64 a9, .int .i64 a10, .int .i64 a11, .int .i64 a12, .int .i64 a13, .int .i64 a14, .int .i64 a15, .slice av P.ws.length cv, .int .i64 P.ms, .int .i64 P.num, .int .i64 P.den, .int .i64 P.hold, .int .i64 P.win, .string salt, .string ⟨#[99, 111, 104, 111, 114, 116]⟩, .bool mir, vig] 28)
  have H2 := Lib.hid (heap_alloc_new w1 (.cells #[.int .i64 a0, .int .i64 a1, .int .i64 a2, .int .i64 a3, .int .i64 a4, .int .i64 a5, .int .i64 a6, .int .i64 a7, .int .i64 a8, .int .i64 a9, .int .i64 a10, .int .i64 a11, .int .i64 a12, .int .i64 a13, .int .i64 a14, .int .i64 a15, .slice av P.ws.length cv, .int .i64 P.ms, .int .i64 P.num, .int .i64 P.den, .int .i64 P.hold, .int .i64 P.win, .string salt, .string ⟨#[99, 111, 104, 111, 114, 116]⟩, .bool mir, vig] 28))
  have HB2 := Lib.hid (Below.self_trans HB1 hx)
  have HR2 := Lib.hid (hrd.below hx)
  have hsz2 : salt.size ≤ maxLen := by simp [maxLen]; omega
  have hn1 : RdF (w1.alloc (.cells #[.int .i64 a0, .int .i64 a1, .int .i64 a2, .int .i64 a3, .int .i64 a4, .int .i64 a5, .int .i64 a6, .int .i64 a7, .int .i64 a8, .int .i64 a9, .int .i64 a10, .int .i64 a11, .int .i64 a12, .int .i64 a13, .int .i64 a14, .int .i64 a15, .slice av P.ws.length cv, .int .i64 P.ms, .int .i64 P.num, .int .i64 P.den, .int .i64 P.hold, .int .i64 P.win, .string salt, .string ⟨#[99, 111, 104, 111, 114, 116]⟩, .bool mir, vig] 28)) (.slice none 0 0) [] := ⟨none, 0, rfl, Nat.le_refl _, Nat.zero_le _, fun _ => rfl, fun k hk => absurd hk (Nat.not_lt_zero _)⟩
  have C1 := Lib.hid (choose_calls a0 a1 a2 a3 a4 a5 a6 a7 a8 a9 a10 a11 a12 a13 a14 a15 P (.slice av P.ws.length cv) salt ⟨#[99, 111, 104, 111, 114, 116]⟩ mir vig 2 0 0 0 0 0 (.slice none 0 0) [] 1 2 _ (hE.below HB2.out) HR2.out hn1 (by decide) hsz2 ⟨by omega, by omega⟩ ⟨by omega, by omega⟩)
  rw [route_x] at C1
  generalize nidOf 1 2 = nid at C1
  clear hown hg hs1 HB0 HB1 HS hx hn1 hvi hrd
  go_wp2_with (first
    | (refine wpList_store_row rfl 28 (.tmp 1) (.tmp 6) rfl w1.heap.size _ rfl rfl 28 _ hnew.out (by kernel_rfl) rfl hone.out ?_; rw [World.setRow_alloc_new]; simp only [Act.put])
    | (refine wpList_load_row rfl 28 _ rfl w1.heap.size rfl 28 _ (0, 0) _ H2.out Tryz.underlying28 rfl (by kernel_rfl) ?_; simp only [Act.put]))
  generalize (w1.alloc (.cells #[.int .i64 a0, .int .i64 a1, .int .i64 a2, .int .i64 a3, .int .i64 a4, .int .i64 a5, .int .i64 a6, .int .i64 a7, .int .i64 a8, .int .i64 a9, .int .i64 a10, .int .i64 a11, .int .i64 a12, .int .i64 a13, .int .i64 a14, .int .i64 a15, .slice av P.ws.length cv, .int .i64 P.ms, .int .i64 P.num, .int .i64 P.den, .int .i64 P.hold, .int .i64 P.win, .string salt, .string ⟨#[99, 111, 104, 111, 114, 116]⟩, .bool mir, vig] 28)) = w2 at *
  generalize w1.heap.size = g at *
  refine C1.out.mono ?_
  rintro e w3 ⟨rfl, hb3⟩
  have hx3 := (Below.refl w3.heap.size w3).alloc (Nat.le_refl _) (.cells #[.int .i64 5, .string nid, .bool true] 40)
  have H3 := Lib.hid (row_below (row_below H2.out hb3) hx3)
  have HX3 := Lib.hid (heap_alloc_new w3 (.cells #[.int .i64 5, .string nid, .bool true] 40))
  have HB3 := Lib.hid (Below.self_trans (Below.self_trans HB2.out hb3) hx3)
  have HR3 := Lib.hid ((HR2.out.below hb3).below hx3)
  clear hb3 hx3 HB2 HR2 H2 C1 hone hnew
  go_wp2_with (refine wpList_load_row rfl 28 _ rfl g rfl 28 _ (0, 0) _ H3.out Tryz.underlying28 rfl (by kernel_rfl) ?_; simp only [Act.put])
  have hx4 := (Below.refl (w3.alloc (.cells #[.int .i64 5, .string nid, .bool true] 40)).heap.size (w3.alloc (.cells #[.int .i64 5, .string nid, .bool true] 40))).alloc (Nat.le_refl _) (.cells #[.string ckF.name, .string ckF.val] 45)
  have hn2 := rdf_one (w3.alloc (.cells #[.int .i64 5, .string nid, .bool true] 40)) ckF.name ckF.val (0, 0)
  rw [World.size_alloc] at hn2
  unfold ckF at hx4 hn2
  have HB4 := Lib.hid (Below.self_trans HB3.out hx4)
  have HX4 := Lib.hid (row_below HX3.out hx4)
  have HR4 := Lib.hid (HR3.out.below hx4)
  have C2 := Lib.hid (choose_calls a0 a1 a2 a3 a4 a5 a6 a7 a8 a9 a10 a11 a12 a13 a14 a15 P (.slice av P.ws.length cv) salt ⟨#[99, 111, 104, 111, 114, 116]⟩ mir vig 0 0 0 0 0 0 _ [ckF] 1 2 _ (hE.below HB4.out) HR4.out hn2 (by decide) hsz2 ⟨by omega, by omega⟩ ⟨by omega, by omega⟩)
  rw [route_y] at C2
  refine C2.out.mono ?_
  rintro e w5 ⟨rfl, hb5⟩
  have hx5 := (Below.refl w5.heap.size w5).alloc (Nat.le_refl _) (.cells #[.int .i64 4, .string ⟨#[48, 49, 50, 51, 52, 53, 54, 55, 56, 57, 97, 98, 99, 100, 101, 102]⟩, .bool false] 40)
  obtain ⟨⟨c0, c1, c2⟩, -, -⟩ := row3 (row_below (row_below HX4.out hb5) hx5)
  obtain ⟨⟨d0, d1, d2⟩, -, -⟩ := row3 (heap_alloc_new w5 (.cells #[.int .i64 4, .string ⟨#[48, 49, 50, 51, 52, 53, 54, 55, 56, 57, 97, 98, 99, 100, 101, 102]⟩, .bool false] 40))
  have HB6 := Lib.hid (Below.self_trans (Below.self_trans HB4.out hb5) hx5)
  clear hx5 hb5 hx4 hn2 HB4 HX4 HR4 C2 HB3 HX3 HR3 H3
  go_wp2_with fail
  refine (pro_refusal_calls 9 0 _).mono ?_
  rintro e w6 ⟨rfl, rfl⟩
  have hq : refuseI 9 0 = 413 := by decide
  rw [hq]
  go_wp2
  go_ret
  exact ⟨rfl, HB6.out⟩
end Go.Proofs.YtfmokccoilgpmaaGreatDoor
