/- The journal's Append walks. No conditions beyond those typed. -/
import Derived.Test.YtngcdkbnljoodaaDoorJouT
import Derived.Maps.AppendAt
namespace Go.Proofs.YtngcdkbnljoodaaDoor
set_option linter.unusedVariables false
set_option linter.unusedSimpArgs false
open Go.RowKit Go.Proofs.YtngcdkbnljoodaaDoorW.PrintWords

set_option maxHeartbeats 2000000 in
set_option maxRecDepth 100000 in
theorem append_bad {w : World} {j : Nat} (s : ByteArray) (h : s.size = 0 ∨ 400 < s.size) :
    Calls Tryd.prog 24 #[.pointer (some ⟨j, 0, none⟩), .string s] w fun e w' => e = .returned (.int .i64 3) ∧ w = w' := by
  have HF := Lib.hid (Frame_no s h w)
  clear h
  go_enter Tryd.func24, Tryd.ntmps24
  go_wp2_with fail
  refine (HF.out).mono ?_
  rintro e w' ⟨rfl, rfl⟩
  go_wp2_with fail
  go_ret
  exact ⟨rfl, rfl⟩
theorem JnIs.drewN {w : World} {j p pf nb : Nat} {rb : Option Nat} {l : List Bs} {fin : Nat} {o : Bool} (h : JnIs w j rb p pf nb l fin o) (k : Nat) : JnIs (w.drewN k) j rb p pf nb l fin o :=
  h.only (S := []) ⟨rfl, rfl, rfl, Nat.le_refl _, fun _ _ _ => rfl⟩ (by simp) (by simp)
set_option maxHeartbeats 2000000 in
set_option maxRecDepth 100000 in
theorem append_not {w : World} {j p pf nb : Nat} {rb : Option Nat} {l : List Bs} {fin : Nat} {o : Bool} (h : JnIs w j rb p pf nb l fin o) (hn : nb ≤ 256) (hf : fin ≤ 32 * nb) (s : ByteArray) (h1 : 1 ≤ s.size) (h2 : s.size ≤ 400)
    (hbad : 32 * nb - fin < s.size + 8 ∨ o = true) :
    Calls Tryd.prog 24 #[.pointer (some ⟨j, 0, none⟩), .string s] w fun e w' => e = .returned (.int .i64 (if 32 * nb - fin < s.size + 8 then 14 else 16)) ∧ Below w.heap.size w w' := by
  have HFR := Lib.hid (Frame_ok s h1 h2 w)
  have hfs : (mkS (frameL s.data.toList)).size = s.size + 8 := by rw [size_mkS, frameL_length]; rfl
  have HJ := Lib.hid h
  generalize mkS (frameL s.data.toList) = FR at *
  obtain ⟨R, hR⟩ : ∃ R : Int, R = 32 * (nb : Int) - (fin : Int) := ⟨_, rfl⟩
  obtain ⟨L, hL⟩ : ∃ L : Nat, L = s.size + 8 := ⟨_, rfl⟩
  rw [← hL] at hfs hbad ⊢
  by_cases hg : 32 * nb - fin < L
  · rw [if_pos hg]
    have hgt : R < (L : Int) := by omega
    have HR := Lib.hid hR
    clear h hR hL hg hbad
    go_enter Tryd.func24, Tryd.ntmps24
    go_wp2_with fail
    refine (HFR.out).mono ?_
    rintro e w1 ⟨rfl, hb⟩
    have hj1 : JnIs w1 j rb p pf nb l fin o := HJ.out.only (S := []) (Only.of_below hb) (by simp) (by simp)
    have HRM := Lib.hid (room_of hj1 hn hf)
    clear hj1
    go_wp2_with fail
    refine (HRM.out).mono ?_
    rintro e w2 ⟨rfl, k, rfl⟩
    rw [← HR.out]
    go_wp2_with fail
    go_ret
    exact ⟨rfl, ⟨hb.os, hb.tape, hb.output, hb.size, hb.block⟩⟩
  · rw [if_neg hg]
    have ho : o = true := hbad.resolve_left hg
    subst ho
    have hgt : ¬ (R < (L : Int)) := by omega
    have hgt2 : (R < (L : Int)) = False := eq_false hgt
    have hgt3 : (L : Int) ≤ R := by omega
    have HR := Lib.hid hR
    clear h hR hL hg hbad hgt
    go_enter Tryd.func24, Tryd.ntmps24
    go_wp2_with fail
    refine (HFR.out).mono ?_
    rintro e w1 ⟨rfl, hb⟩
    have hj1 : JnIs w1 j rb p pf nb l fin true := HJ.out.only (S := []) (Only.of_below hb) (by simp) (by simp)
    have HRM := Lib.hid (room_of hj1 hn hf)
    obtain ⟨v, hv, _, _⟩ := hj1.ex
    have c5 : w1.cell? ⟨j, 5, none⟩ = some (.bool true) := blk_cell hv 5
    clear hj1 hv
    go_wp2_with fail
    refine (HRM.out).mono ?_
    rintro e w2 ⟨rfl, k, rfl⟩
    rw [← HR.out]
    go_wp2_with fail
    go_ret
    exact ⟨rfl, ⟨hb.os, hb.tape, hb.output, hb.size, hb.block⟩⟩
/-- What an append that has room does. -/
def AppPost (st : St) (j : Nat) (rb : Option Nat) (p b pf nb : Nat) (l : List Bs) (fin : Nat) (r : Bs) (w : World) (e : Ending) (w' : World) : Prop :=
  Only ([p, b] ++ (j :: rb.toList)) w w' ∧ StoreIs w' p b (appendS st pf nb fin (frameL r)).1 ∧ e = .returned (.int .i64 (appendS st pf nb fin (frameL r)).2) ∧
    (((appendS st pf nb fin (frameL r)).2 ≠ 0 ∧ JnIs w' j rb p pf nb l fin true) ∨
      ((appendS st pf nb fin (frameL r)).2 = 0 ∧ ∃ rb', (∀ g, rb' = some g → rb = some g ∨ w.heap.size ≤ g) ∧ JnIs w' j rb' p pf nb (l ++ [r]) (fin + (r.length + 8)) false))
theorem app_string (M : Bs) (fin : Nat) (f : Bs) (hf : fin + f.length ≤ M.length) : openAll (M.take fin ++ f ++ M.drop (fin + f.length)) (fin + f.length) = appAll M fin f := by
  unfold openAll appAll
  have h1 : (M.take fin ++ f).length = fin + f.length := by rw [List.length_append, List.length_take]; omega
  rw [List.take_left' h1, List.length_append, h1, List.length_drop]
  congr 2
  omega
set_option maxHeartbeats 4000000 in
set_option maxRecDepth 100000 in
theorem append_go {w : World} {j p b pf nb : Nat} {rb : Option Nat} {l : List Bs} {fin : Nat} {st : St} (hs : StoreIs w p b st) (h : JnIs w j rb p pf nb l fin false) (hh : st.Has pf nb) (s : ByteArray) (h1 : 1 ≤ s.size) (h2 : s.size ≤ 400)
    (hroom : fin + (s.size + 8) ≤ 32 * nb) (hlen : l.length ≤ 100000) :
    Calls Tryd.prog 24 #[.pointer (some ⟨j, 0, none⟩), .string s] w (AppPost st j rb p b pf nb l fin s.data.toList w) := by
  have HFR := Lib.hid (Frame_ok s h1 h2 w)
  have hsl : s.data.toList.length = s.size := rfl
  have hfl := frameL_length s.data.toList
  have hn : nb ≤ 256 := by have := hs.wf.hi; have := hh.2; omega
  have hpl := partB_length hs.wf hh
  have HJ := Lib.hid h
  have HS := Lib.hid hs
  have HH := Lib.hid hh
  obtain ⟨M, hM⟩ : ∃ M, M = mkS (partB st pf nb) := ⟨_, rfl⟩
  have hMs : M.size = 32 * nb := by rw [hM, size_mkS, hpl]
  have hMl : M.data.toList = partB st pf nb := by rw [hM, list_mkS]
  obtain ⟨FR, hFR⟩ : ∃ FR, FR = mkS (frameL s.data.toList) := ⟨_, rfl⟩
  obtain ⟨L, hL⟩ : ∃ L : Nat, L = s.size + 8 := ⟨_, rfl⟩
  obtain ⟨T, hT⟩ : ∃ T : Nat, T = fin + L := ⟨_, rfl⟩
  have hfs : FR.size = L := by rw [hFR, size_mkS, hfl, hL]; rfl
  obtain ⟨X1, hX1⟩ : ∃ X1, X1 = mkS ((partB st pf nb).take fin) := ⟨_, rfl⟩
  obtain ⟨X2, hX2⟩ : ∃ X2, X2 = mkS ((partB st pf nb).drop T) := ⟨_, rfl⟩
  obtain ⟨Y, hY⟩ : ∃ Y, Y = mkS ((partB st pf nb).take fin ++ frameL s.data.toList) := ⟨_, rfl⟩
  obtain ⟨M2, hM2⟩ : ∃ M2, M2 = mkS ((partB st pf nb).take fin ++ frameL s.data.toList ++ (partB st pf nb).drop T) := ⟨_, rfl⟩
  have eX1 : M.extract 0 fin = X1 := by rw [mkS_extract, hMl, hX1]; rfl
  have eX2 : M.extract T M.size = X2 := by rw [mkS_extract, hMl, hX2, List.take_of_length_le (by rw [List.length_drop, hpl]; omega)]
  have eY : X1 ++ FR = Y := by rw [hX1, hFR, hY, mkS_append]
  have eM2 : Y ++ X2 = M2 := by rw [hY, hX2, hM2, mkS_append]
  have z1 : X1.size ≤ 100000 := by rw [hX1, size_mkS, List.length_take]; omega
  have z2 : X2.size ≤ 100000 := by rw [hX2, size_mkS, List.length_drop]; omega
  have z3 : Y.size ≤ 100000 := by rw [hY, size_mkS, List.length_append, List.length_take, hfl]; omega
  have zM2 : M2.size = 32 * nb := by rw [hM2, size_mkS, List.length_append, List.length_append, List.length_take, List.length_drop, hfl, hpl]; omega
  have z4 : L ≤ 500 := by omega
  have r1 : ∀ W : World, (Op.stringOp .add X1 FR).run Tryd.prog W = .ok (.string Y) W := fun W => by rw [run_string_add_sum W X1 FR (by omega), eY]
  have r2 : ∀ W : World, (Op.stringOp .add Y X2).run Tryd.prog W = .ok (.string M2) W := fun W => by rw [run_string_add_sum W Y X2 (by omega), eM2]
  have r3 : (9223372036854775807 < X1.size + L) = False := eq_false (by omega)
  have r3' : (9223372036854775807 < X1.size + FR.size) = False := eq_false (by omega)
  have r4 : (9223372036854775807 < Y.size + X2.size) = False := eq_false (by omega)
  have hMl2 : M2.data.toList = (partB st pf nb).take fin ++ frameL s.data.toList ++ (partB st pf nb).drop (fin + (frameL s.data.toList).length) := by rw [hM2, list_mkS, hT, hfl, hL]; rfl
  have hAll := app_string (partB st pf nb) fin (frameL s.data.toList) (by omega)
  have hall := appAll_length (partB st pf nb) fin (frameL s.data.toList) (by omega)
  obtain ⟨Z, hZ⟩ : ∃ Z, Z = mkS (appAll (partB st pf nb) fin (frameL s.data.toList)) := ⟨_, rfl⟩
  have HCL : Hid (∀ W, Calls Tryd.prog 39 #[.string M2, .int .i64 (T : Int)] W fun e w' => e = .returned (.string Z) ∧ Below W.heap.size W w') := fun W => by
    have h3 := cleared_of M2 T (by omega) (by omega) W
    rw [hMl2, show T = fin + (frameL s.data.toList).length by omega, hAll, ← hZ] at h3
    rw [show T = fin + (frameL s.data.toList).length by omega]
    exact h3
  have HPU : Hid (∀ W, StoreIs W p b st → Calls Tryd.prog 38 #[.agg #[.pointer (some ⟨p, 0, none⟩), .int .i64 (pf : Int), .int .i64 (nb : Int)], .string Z, .int .i64 (fin : Int), .int .i64 (T : Int), .bool true] W fun e w' =>
      e = .returned (.int .i64 (appendS st pf nb fin (frameL s.data.toList)).2) ∧ StoreIs w' p b (appendS st pf nb fin (frameL s.data.toList)).1 ∧ Only [p, b] W w') := fun W hW => by
    have h2 := put_of hW pf nb hh Z (by rw [hZ, size_mkS, hall, hpl]) fin T (by omega) (by omega) true
    rw [hZ, list_mkS, show T = fin + (frameL s.data.toList).length by omega] at h2
    rw [hZ, show T = fin + (frameL s.data.toList).length by omega]
    exact h2
  have HPB : Hid (∀ W, StoreIs W p b st → Calls Tryd.prog 34 #[.agg #[.pointer (some ⟨p, 0, none⟩), .int .i64 (pf : Int), .int .i64 (nb : Int)]] W fun e w' => e = .returned (.string M) ∧ Below W.heap.size W w') := fun W hW => by
    rw [hM]
    exact pbytes_of hW pf nb hh
  generalize hq : appendS st pf nb fin (frameL s.data.toList) = q at *
  have HQ := Lib.hid hq
  rw [← hFR] at HFR
  obtain ⟨R, hR⟩ : ∃ R : Int, R = 32 * (nb : Int) - (fin : Int) := ⟨_, rfl⟩
  have hgt3 : (L : Int) ≤ R := by omega
  have hgt2 : (R < (L : Int)) = False := eq_false (by omega)
  have hTi : (fin : Int) + (L : Int) = (T : Int) := by omega
  have hTM : (T : Int) ≤ (M.size : Int) := by omega
  have hfM : (fin : Int) ≤ (M.size : Int) := by omega
  have hTn : T ≤ 8192 := by omega
  have hf0 : (0 : Int) ≤ (fin : Int) := by omega
  have hT0 : (0 : Int) ≤ (T : Int) := by omega
  have HR := Lib.hid hR
  have HL := Lib.hid hL
  have HT := Lib.hid hT
  have sT : IntKind.i64.wrap ((fin : Int) + (L : Int)) = (T : Int) := by rw [IntWalk.i64_in _ (by omega)]; omega
  clear hq hM hMs hMl hFR hX1 hX2 hY hM2 zM2 hMl2 hAll hall hZ hR hL hT hpl hfl h hs hh hsl
  go_enter Tryd.func24, Tryd.ntmps24
  go_wp2_with fail
  refine (HFR.out).mono ?_
  rintro e w1 ⟨rfl, hb⟩
  have hj1 : JnIs w1 j rb p pf nb l fin false := HJ.out.only (S := []) (Only.of_below hb) (by simp) (by simp)
  have HRM := Lib.hid (room_of hj1 hn (by omega))
  have HS1 := Lib.hid (HS.out.below hb)
  have HB1 := Lib.hid hb
  obtain ⟨v, hv, hown, hrb⟩ := hj1.ex
  have HO1 := Lib.hid hown
  have HRB := Lib.hid hrb
  have HJ1 := Lib.hid hv
  obtain ⟨c0, c1, c2, c3, c4, c5, f0, f1, f2, f3, f4, f5⟩ := jnF hv
  have hjl := blk_lt hv
  clear hj1 hv hown hrb hb
  go_wp2_with fail
  refine (HRM.out).mono ?_
  rintro e w2 ⟨rfl, k, rfl⟩
  rw [← HR.out]
  go_wp2_with fail
  refine (HPB.out (w1.drewN k) (HS1.out.only (S := []) ⟨rfl, rfl, rfl, Nat.le_refl _, fun _ _ _ => rfl⟩ (by simp) (by simp))).mono ?_
  rintro e w3 ⟨rfl, hb⟩
  have hO3 : Only [] w w3 := ((Only.of_below HB1.out).tr (b := w1) (c := w1.drewN k) ⟨rfl, rfl, rfl, Nat.le_refl _, fun _ _ _ => rfl⟩).tr (Only.of_below hb)
  have HS3 := Lib.hid (HS.out.only hO3 (by simp) (by simp))
  have HO3 := Lib.hid hO3
  obtain ⟨v3, hv3, hown3, hrb3⟩ := (HJ.out.only hO3 (by simp) (by simp)).ex
  have hjp : j ≠ p := by obtain ⟨_, _, ⟨wr, h1⟩, h2⟩ := HS3.out; exact blk_ne hv3 h1 (by decide)
  have hjb : j ≠ b := by obtain ⟨_, _, ⟨wr, h1⟩, h2⟩ := HS3.out; exact blk_ne hv3 h2 (by decide)
  obtain ⟨d0, d1, d2, d3, d4, d5, g0, g1, g2, g3, g4, g5⟩ := jnF hv3
  have HJ3 := Lib.hid hv3
  have HOW3 := Lib.hid hown3
  have HRB3 := Lib.hid hrb3
  have hlt3 := blk_lt hv3
  clear hb hO3 hv3 hown3 hrb3 c0 c1 c2 c3 c4 c5 f0 f1 f2 f3 f4 f5 HS1 HRM HO1 HRB HJ1
  go_wp2_with fail
  go_region_held3 (fun w' => w'.cell? ⟨j, 0, none⟩ = some (.pointer (some ⟨p, 0, none⟩)) ∧ w'.cell? ⟨j, 1, none⟩ = some (.int .i64 (pf : Int)) ∧ w'.cell? ⟨j, 2, none⟩ = some (.int .i64 (nb : Int)) ∧ w'.cell? ⟨j, 4, none⟩ = some (.int .i64 (fin : Int)))
    (go_keep)
    (first
      | (go_at_call 39; refine (HCL.out _).mono ?_; rintro e w4 ⟨rfl, hb⟩; have HO4 := Lib.hid ((HO3.out.drew).tr (Only.of_below hb)); have hO34 : Only [] w3 w4 := ((Only.refl [] w3).drew).tr (Only.of_below hb); have HS4 := Lib.hid (HS3.out.only hO34 (by simp) (by simp)); have e0 : w4.cell? ⟨j, 0, none⟩ = some (.pointer (some ⟨p, 0, none⟩)) := blk_cell (hO34.blk HJ3.out (by simp)) 0; have e1 : w4.cell? ⟨j, 1, none⟩ = some (.int .i64 (pf : Int)) := blk_cell (hO34.blk HJ3.out (by simp)) 1; have e2 : w4.cell? ⟨j, 2, none⟩ = some (.int .i64 (nb : Int)) := blk_cell (hO34.blk HJ3.out (by simp)) 2; have e4 : w4.cell? ⟨j, 4, none⟩ = some (.int .i64 (fin : Int)) := blk_cell (hO34.blk HJ3.out (by simp)) 4; have HO34 := Lib.hid hO34; clear hb hO34)
      | (go_at_call 38; refine (HPU.out _ HS4.out).mono ?_; rintro e w5 ⟨rfl, hst, ho⟩; have HS5 := Lib.hid hst; have HO5 := Lib.hid ((HO4.out.mono (T := [p, b]) (by simp)).tr ho); have HO35 := Lib.hid ((HO34.out.mono (T := [p, b]) (by simp)).tr ho); have e0 : w5.cell? ⟨j, 0, none⟩ = some (.pointer (some ⟨p, 0, none⟩)) := blk_cell (HO35.out.blk HJ3.out (by simp; omega)) 0; have e1 : w5.cell? ⟨j, 1, none⟩ = some (.int .i64 (pf : Int)) := blk_cell (HO35.out.blk HJ3.out (by simp; omega)) 1; have e2 : w5.cell? ⟨j, 2, none⟩ = some (.int .i64 (nb : Int)) := blk_cell (HO35.out.blk HJ3.out (by simp; omega)) 2; have e4 : w5.cell? ⟨j, 4, none⟩ = some (.int .i64 (fin : Int)) := blk_cell (HO35.out.blk HJ3.out (by simp; omega)) 4; clear hst ho))
  have hv5 := HO35.out.blk HJ3.out (by simp; omega)
  have hown5 := own_of_only (HOW3.out) HO35.out (store_types HS3.out)
  clear e0 e1 e2 e4 d0 d1 d2 d3 d4 d5 g0 g1 g2 g3 g4 g5
  obtain ⟨e0, e1, e2, e3, e4, e5, f0, f1, f2, f3, f4, f5⟩ := jnF hv5
  have HJ5 := Lib.hid hv5
  have HW5 := Lib.hid hown5
  have hRg : ∀ g, v3.ownBlock = some g → rb = some g := fun g hg => by rw [← HRB3.out]; exact hg
  have HRG := Lib.hid hRg
  clear hv5 hown5 hRg
  by_cases hq2 : q.2 = 0
  · have hne : (q.2 != 0) = false := by rw [hq2]; rfl
    have HQ2 := Lib.hid hq2
    obtain ⟨i0, hi, hz0, hz1, hz2⟩ := info_parts string_info
    obtain ⟨ao, n1, cap, rfl⟩ := own_slice HW5.out
    clear hq2
    go_wp2_with (at_builtin; refine wpList_append_own_at _ rfl _ _ 32 rfl 0 9 i0 (.string ByteArray.empty) 1 16 Tryd.underlying32 hi hz0 hz1 hz2 rfl (by decide) _ _ _ rfl (HW5.out.alloc _) ⟨w5.heap.size, 0, none⟩ 1 1 [.string s] rfl rfl ?c1 ?c2 ?c3 ?c4 ?c5 ?_)
    case c1 =>
      intro m u hm
      match m, hm with
      | 0, hm => simp at hm; subst hm; simp [Addr.add]
    case c2 => intro u hu; simp at hu; subst hu; rfl
    case c3 => unfold maxLen; omega
    case c4 => omega
    case c5 => exact Nat.zero_le _
    intro v' w6 hown6 hgrow _ hat
    obtain ⟨ao', n', cap', rfl⟩ := own_slice hown6
    have hjg : ∀ g, (Value.slice ao n1 cap).ownBlock = some g → g ≠ j := fun g hg e => by
      obtain ⟨cells, hc⟩ := own_typed HW5.out g hg
      rw [e, HJ5.out] at hc
      cases hc
    have hlt5 := blk_lt HJ5.out
    have hv6 : w6.heap[j]? = _ := (hgrow.block j (by simp; omega) (fun e => hjg j e.symm rfl)).trans (blk_alloc HJ5.out _)
    have hO6 : Only ([p, b] ++ (j :: rb.toList)) w5 w6 := ((Only.refl _ w5).alloc _).grown hgrow (fun g hg => Or.inl (by have := HRG.out g hg; rw [this]; simp))
    have hS6 : StoreIs w6 p b q.1 := by
      obtain ⟨z1, z2, ⟨wr, z3⟩, z4⟩ := HS5.out
      have hpg : ∀ {g : Nat} {cs : Array Value} {t : TypeId}, w5.heap[g]? = some (.cells cs t (0, 0)) → t ≠ 9 → w6.heap[g]? = some (.cells cs t (0, 0)) := fun {g cs t} hg ht =>
        (hgrow.block g (by have := blk_lt hg; simp; omega) (fun e => by
          obtain ⟨cells, hc⟩ := own_typed HW5.out g e.symm
          rw [hg] at hc
          cases hc
          exact ht rfl)).trans (blk_alloc hg _)
      exact ⟨z1, z2, ⟨wr, hpg z3 (by decide)⟩, hpg z4 (by decide)⟩
    have hrb6 : ∀ g, (Value.slice ao' n' cap').ownBlock = some g → rb = some g ∨ w.heap.size ≤ g := fun g hg => by
      rcases hat with h | h
      · exact Or.inl (HRG.out g (h ▸ hg))
      · rw [h] at hg
        obtain ⟨_, _, _, hz, _⟩ := HO5.out
        cases hg
        exact Or.inr (Nat.le_succ_of_le hz)
    have HO6 := Lib.hid hO6
    have HS6 := Lib.hid hS6
    have HR6 := Lib.hid hrb6
    have HW6 := Lib.hid hown6
    have HJ6 := Lib.hid hv6
    clear e0 e1 e2 e3 e4 e5 f0 f1 f2 f3 f4 f5 hgrow hown6 hjg hat hO6 hS6 hrb6
    obtain ⟨e0, e1, e2, e3, e4, e5, f0, f1, f2, f3, f4, f5⟩ := jnF hv6
    clear hv6
    go_wp2_with fail
    go_ret
    have hO67 : Only [j] w6 ((w6.setCell ⟨j, 3, none⟩ (.slice ao' n' cap')).setCell ⟨j, 4, none⟩ (.int .i64 (T : Int))) := ((Only.refl _ w6).setCell (p := ⟨j, 3, none⟩) (Or.inl (by simp)) _).setCell (p := ⟨j, 4, none⟩) (Or.inl (by simp)) _
    refine ⟨?_, ?_, by rw [HQ.out, HQ2.out]; rfl, Or.inr ⟨by rw [HQ.out]; exact HQ2.out, (Value.slice ao' n' cap').ownBlock, HR6.out, ⟨_, ?_, ?_, rfl⟩⟩⟩
    · exact ((HO5.out.mono (by simp)).tr HO6.out).tr (hO67.mono (by simp))
    · rw [HQ.out]
      exact HS6.out.only hO67 (by simp; omega) (by simp; omega)
    · rw [show fin + (s.data.toList.length + 8) = T by rw [HT.out, HL.out]; rfl]
      exact blk_set (blk_set HJ6.out 3 (.slice ao' n' cap')) 4 (.int .i64 (T : Int))
    · rw [List.length_append, List.map_append, List.map_singleton, strV, mkS_list]
      refine own_of_only HW6.out (S := [j]) hO67 ?_
      intro g hg
      rw [List.mem_singleton.1 hg]
      exact ⟨_, _, _, HJ6.out, by decide⟩
  · have hne : (q.2 != 0) = true := by rw [bne_iff_ne]; exact hq2
    have HQ2 := Lib.hid hq2
    clear hq2
    go_wp2_with fail
    go_ret
    refine ⟨?_, ?_, by rw [HQ.out]; rfl, Or.inl ⟨by rw [HQ.out]; exact HQ2.out, ⟨v3, blk_set HJ5.out 5 (.bool true), ?_, HRB3.out⟩⟩⟩
    · exact (HO5.out.mono (by simp)).setCell (p := ⟨j, 5, none⟩) (Or.inl (by simp)) _
    · rw [HQ.out]
      exact HS5.out.only (S := [j]) ((Only.refl _ _).setCell (p := ⟨j, 5, none⟩) (Or.inl (by simp)) _) (by simp; omega) (by simp; omega)
    · refine own_of_only HW5.out (S := [j]) ((Only.refl _ _).setCell (p := ⟨j, 5, none⟩) (Or.inl (by simp)) _) ?_
      intro g hg
      rw [List.mem_singleton.1 hg]
      exact ⟨_, _, _, HJ5.out, by decide⟩
end Go.Proofs.YtngcdkbnljoodaaDoor

