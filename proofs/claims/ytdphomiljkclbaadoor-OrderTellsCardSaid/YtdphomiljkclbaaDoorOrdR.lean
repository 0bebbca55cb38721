/- Lemmas and contracts for the functions of one layer of the program, used by the law's proof. No conditions beyond those typed. -/
import Derived.Test.YtdphomiljkclbaaDoorOrdI
import Derived.Test.YtdphomiljkclbaaDoorOrdM
import Derived.Test.YtdphomiljkclbaaDoorOrdQ
namespace Go.Proofs.YtdphomiljkclbaaDoor
set_option linter.unusedVariables false
set_option linter.unusedSimpArgs false
open Go.RowKit Go.Proofs.YtdphomiljkclbaaDoorW.PrintWords Go.Proofs.YtdphomiljkclbaaDoorW.PrintLast Go.Proofs.YtdphomiljkclbaaDoorW.PrintMore Go.Proofs.YtdphomiljkclbaaDoor.P

theorem eqOrdR (a b : Ord) (w : World) : (binOp .eql 29 (ordV a) (ordV b)).run Tryd.prog w = .ok (.bool (a.same b)) w := by
  rw [run_eql_struct]
  have h : (Op.equalIn (9998 + 2) 29 (ordV a) (ordV b)).run Tryd.prog w = .ok (a.same b) w := by
    obtain ⟨x0, x1, x2, x3, x4⟩ := a
    obtain ⟨y0, y1, y2, y3, y4⟩ := b
    refine eqA_of Tryd.underlying29 (by kernel_rfl) ?_
    refine eqf_cons (by rfl) (by go_simp; rfl) (by go_simp; rfl) (by go_simp) ?_
    refine eqf_cons (by rfl) (by go_simp; rfl) (by go_simp; rfl) (by go_simp) ?_
    refine eqf_cons (by rfl) (by go_simp; rfl) (by go_simp; rfl) (by go_simp) ?_
    refine eqf_cons (by rfl) (by go_simp; rfl) (by go_simp; rfl) (by go_simp) ?_
    exact eqf_last (by rfl) (by go_simp; rfl) (by go_simp; rfl) (by go_simp)
  rw [h]
  rfl
theorem put4 (a : Act) (v : Value) (h : 4 < a.tmps.size) : (a.put (some 4) v).tmps.getD 4 undef = v := by
  simp [Act.put, Array.getD, h]
set_option maxHeartbeats 8000000 in
set_option maxRecDepth 100000 in
theorem OrderTells_a (o : Ord) (s : ByteArray) (h0 : -9223372036854775808 ≤ o.n) (h1 : o.n ≤ 9223372036854775807) (gk : o.k = 7) (w : World) (ht : Tab w) :
    Calls Tryd.prog 3 #[ordV o, .string s] w fun e w' => e = .returned (.bool true) ∧ Below w.heap.size w w' := by
  have Hgk := Lib.hid gk
  clear gk
  have hu := Tryd.underlying23
  have HT := Lib.hid ht
  have H0 := Lib.hid h0
  have H1 := Lib.hid h1
  clear ht h0 h1
  obtain ⟨p, at_, er, hr⟩ : ∃ p at_ er, readR s = (p, at_, er) := ⟨_, _, _, rfl⟩
  have HR := Lib.hid hr
  clear hr
  go_enter Tryd.func3, Tryd.ntmps3
  obtain ⟨W, hW⟩ : ∃ W, W = w.alloc (.cells #[Value.int IntKind.i64 o.k, Value.string o.c, Value.string o.e, Value.string o.u, Value.int IntKind.i64 o.n] 23) := ⟨_, rfl⟩
  have HB0 : Hid (Below w.heap.size w W) := by show Below _ _ _; rw [hW]; exact boxO w o
  have HO0 : Hid (W.heap[w.heap.size]? = some (Obj.cells #[Value.int IntKind.i64 o.k, Value.string o.c, Value.string o.e, Value.string o.u, Value.int IntKind.i64 o.n] 23 (0, 0))) := by show _ = _; rw [hW]; exact blk_new w _
  have hW2 := hW.symm
  clear hW
  go_upto_region 3 with (go_at_call 6; refine (awake_any _ (tab_below HT.out HB0.out)).mono ?_; rintro e w1 ⟨rfl, hb⟩; have HB1 := Lib.hid (HB0.out.trans (hb.mono HB0.out.size)); have HO1 := Lib.hid ((hb.block w.heap.size (blk_lt HO0.out)).trans HO0.out); clear hb)
  clear hW2
  have y0 : w1.cell? ⟨w.heap.size, 0, none⟩ = some (.int .i64 o.k) := blk_cell HO1.out 0
  have y1 : w1.cell? ⟨w.heap.size, 1, none⟩ = some (.string o.c) := blk_cell HO1.out 1
  have y2 : w1.cell? ⟨w.heap.size, 2, none⟩ = some (.string o.e) := blk_cell HO1.out 2
  have y3 : w1.cell? ⟨w.heap.size, 3, none⟩ = some (.string o.u) := blk_cell HO1.out 3
  have y4 : w1.cell? ⟨w.heap.size, 4, none⟩ = some (.int .i64 o.n) := blk_cell HO1.out 4
  by_cases g4 : (1024 : Int) < (s.size : Int)
  · go_wp2
    go_ret
    exact ⟨rfl, HB1.out⟩
  by_cases g1 : (100 : Int) < (o.c.size : Int)
  · go_wp2
    go_ret
    exact ⟨rfl, HB1.out⟩
  by_cases g2 : (100 : Int) < (o.e.size : Int)
  · go_wp2
    go_ret
    exact ⟨rfl, HB1.out⟩
  by_cases g3 : (100 : Int) < (o.u.size : Int)
  · go_wp2
    go_ret
    exact ⟨rfl, HB1.out⟩
  have hrd := Lib.hid (fun W' => read_of HR.out (by omega) W')
  obtain ⟨t, y, hw⟩ : ∃ t y, writeR o = (t, y) := ⟨_, _, rfl⟩
  have hyb : (y == 0) = mayO o := by
    unfold writeR at hw
    cases hM : mayO o <;> rw [hM] at hw
    · have : (2 : Int) = y := congrArg (·.2) hw
      rw [← this]; rfl
    · have : (0 : Int) = y := congrArg (·.2) hw
      rw [← this]; rfl
  have W1 := Lib.hid (fun W' (hW : Tab W') => write_of hw (by omega) (by omega) (by omega) H0.out H1.out W' hW)
  have W2 : Hid (∀ W', Calls Tryd.prog 8 #[.agg #[Value.int IntKind.i64 o.k, Value.string o.c, Value.string o.e, Value.string o.u, Value.int IntKind.i64 o.n]] W' fun e w' => e = .returned (.tuple #[.string t, .int .i64 y]) ∧ Below W'.heap.size W' w') := fun W' => by have h := R15Write_any o (by omega) (by omega) (by omega) W'; rw [hw] at h; exact h
  have R2 : Hid (∀ W', Calls Tryd.prog 10 #[.string s] W' fun e w' => e = .returned (.tuple #[.agg #[Value.int IntKind.i64 p.k, Value.string p.c, Value.string p.e, Value.string p.u, Value.int IntKind.i64 p.n], .int .i64 at_, .int .i64 er]) ∧ Below W'.heap.size W' w') := fun W' => by have h := R15Read_any s (by omega) W'; rw [HR.out] at h; exact h
  have M1 := Lib.hid (fun W' => may_of (o := o) rfl (by omega) (by omega) (by omega) W')
  clear hw
  go_upto_region 6 with (go_at_call 7; refine (W1.out _ (tab_below HT.out HB1.out)).mono ?_; rintro e w2 ⟨rfl, hb⟩; have HB2 := Lib.hid (HB1.out.trans (hb.mono HB1.out.size)); have HO2 := Lib.hid ((hb.block w.heap.size (blk_lt HO1.out)).trans HO1.out); clear hb)
  clear y0 y1 y2 y3 y4
  obtain ⟨y0, y1, y2, y3, y4, _, _, _, _, _⟩ := resF HO2.out
  go_upto_region 7 with (go_at_call 8; refine (W2.out _).mono ?_; rintro e w3 ⟨rfl, hb⟩; have HB3 := Lib.hid (HB2.out.trans (hb.mono HB2.out.size)); have HO3 := Lib.hid ((hb.block w.heap.size (blk_lt HO2.out)).trans HO2.out); clear hb)
  clear y0 y1 y2 y3 y4
  go_upto_region 8 with (go_at_call 9; refine (hrd.out _).mono ?_; rintro e w4 ⟨rfl, hb⟩; have HB4 := Lib.hid (HB3.out.trans (hb.mono HB3.out.size)); have HO4 := Lib.hid ((hb.block w.heap.size (blk_lt HO3.out)).trans HO3.out); clear hb)
  obtain ⟨w5, hw5⟩ : ∃ w5, w5 = w4.alloc (.cells #[Value.int IntKind.i64 p.k, Value.string p.c, Value.string p.e, Value.string p.u, Value.int IntKind.i64 p.n] 23) := ⟨_, rfl⟩
  rw [← hw5]
  have HB5 : Hid (Below w.heap.size w w5) := by show Below _ _ _; rw [hw5]; exact below_alloc HB4.out _
  have HO5 : Hid (w5.heap[w.heap.size]? = some (Obj.cells #[Value.int IntKind.i64 o.k, Value.string o.c, Value.string o.e, Value.string o.u, Value.int IntKind.i64 o.n] 23 (0, 0))) := by show _ = _; rw [hw5]; exact blk_alloc HO4.out _
  have HP5 : Hid (w5.heap[w4.heap.size]? = some (Obj.cells #[Value.int IntKind.i64 p.k, Value.string p.c, Value.string p.e, Value.string p.u, Value.int IntKind.i64 p.n] 23 (0, 0))) := by show _ = _; rw [hw5]; exact blk_new w4 _
  clear hw5
  generalize w4.heap.size = bp at *
  go_upto_region 9 with (go_at_call 10; refine (R2.out _).mono ?_; rintro e w6 ⟨rfl, hb⟩; have HB6 := Lib.hid (HB5.out.trans (hb.mono HB5.out.size)); have HO6 := Lib.hid ((hb.block w.heap.size (blk_lt HO5.out)).trans HO5.out); have HP6 := Lib.hid ((hb.block bp (blk_lt HP5.out)).trans HP5.out); clear hb)
  obtain ⟨w7, hw7⟩ : ∃ w7, w7 = w6.alloc (.cells #[Value.int IntKind.i64 p.k, Value.string p.c, Value.string p.e, Value.string p.u, Value.int IntKind.i64 p.n] 29) := ⟨_, rfl⟩
  rw [← hw7]
  have HB7 : Hid (Below w.heap.size w w7) := by show Below _ _ _; rw [hw7]; exact below_alloc HB6.out _
  have HO7 : Hid (w7.heap[w.heap.size]? = some (Obj.cells #[Value.int IntKind.i64 o.k, Value.string o.c, Value.string o.e, Value.string o.u, Value.int IntKind.i64 o.n] 23 (0, 0))) := by show _ = _; rw [hw7]; exact blk_alloc HO6.out _
  have HP7 : Hid (w7.heap[bp]? = some (Obj.cells #[Value.int IntKind.i64 p.k, Value.string p.c, Value.string p.e, Value.string p.u, Value.int IntKind.i64 p.n] 23 (0, 0))) := by show _ = _; rw [hw7]; exact blk_alloc HP6.out _
  have HQ7 : Hid (w7.heap[w6.heap.size]? = some (Obj.cells #[Value.int IntKind.i64 p.k, Value.string p.c, Value.string p.e, Value.string p.u, Value.int IntKind.i64 p.n] 29 (0, 0))) := by show _ = _; rw [hw7]; exact blk_new w6 _
  clear hw7
  generalize w6.heap.size = bq at *
  obtain ⟨x0, x1, x2, x3, x4, _, _, _, _, _⟩ := resF HO7.out
  obtain ⟨y0, y1, y2, y3, y4, _, _, _, _, _⟩ := resF HP7.out
  obtain ⟨z0, z1, z2, z3, z4, _, _, _, _, _⟩ := resFr HQ7.out
  have heq : ∀ W' : World, (binOp .eql 29 (.agg #[Value.int IntKind.i64 p.k, Value.string p.c, Value.string p.e, Value.string p.u, Value.int IntKind.i64 p.n]) (.agg #[Value.int IntKind.i64 p.k, Value.string p.c, Value.string p.e, Value.string p.u, Value.int IntKind.i64 p.n])).run Tryd.prog W' = .ok (.bool true) W' := fun W' => by have h := eqOrdR p p W'; rw [same_self] at h; exact h
  have hmb : ∀ b : Bool, mayO o = b → (y == 0) = b := fun b h => hyb.trans h
  have HYB := Lib.hid hmb
  clear hyb hmb
  generalize hmo : mayO o = mo at *
  have hy0 : (y == 0) = mo := HYB.out mo rfl
  clear hmo
  have gk := Hgk.out
  clear Hgk
  have k5 : decide (1 ≤ o.k) = true := by rw [gk]; rfl
  have k6 : decide (o.k ≤ 9) = true := by rw [gk]; rfl
  have hc : chgO o.k = false := by rw [gk]; rfl
  have h7 : (o.k != 7) = false := by rw [gk]; rfl
  have g5 : 1 ≤ o.k := by omega
  have g6 : o.k ≤ 9 := by omega
  clear gk
  have HB7d : Hid (Below w.heap.size w w7.drew) := HB7.out.drew
  clear HB7
  have HB7 := HB7d
  go_upto_region 9 with fail
  refine wp_region_held_drew (S := (fun w' => w'.cell? ⟨w.heap.size, 0, none⟩ = some (.int .i64 o.k) ∧ w'.cell? ⟨w.heap.size, 1, none⟩ = some (.string o.c) ∧ w'.cell? ⟨w.heap.size, 2, none⟩ = some (.string o.e) ∧ w'.cell? ⟨w.heap.size, 3, none⟩ = some (.string o.u) ∧ w'.cell? ⟨w.heap.size, 4, none⟩ = some (.int .i64 o.n) ∧ w'.cell? ⟨bp, 0, none⟩ = some (.int .i64 p.k) ∧ w'.cell? ⟨bp, 1, none⟩ = some (.string p.c) ∧ w'.cell? ⟨bp, 2, none⟩ = some (.string p.e) ∧ w'.cell? ⟨bp, 3, none⟩ = some (.string p.u) ∧ w'.cell? ⟨bp, 4, none⟩ = some (.int .i64 p.n) ∧ w'.cell? ⟨bq, 0, none⟩ = some (.int .i64 p.k) ∧ w'.cell? ⟨bq, 1, none⟩ = some (.string p.c) ∧ w'.cell? ⟨bq, 2, none⟩ = some (.string p.e) ∧ w'.cell? ⟨bq, 3, none⟩ = some (.string p.u) ∧ w'.cell? ⟨bq, 4, none⟩ = some (.int .i64 p.n))) (by kernel_rfl) (by (try dsimp only); exact ⟨x0, x1, x2, x3, x4, y0, y1, y2, y3, y4, z0, z1, z2, z3, z4⟩) (fun hHeld => ?_)
  (refine wpAnyH_take2 (i := 0) (d := some 60) (v := ?_) rfl rfl (by kernel_rfl) (by kernel_rfl) (by kernel_rfl) (fun _ _ _ h => h) (Or.inl ⟨by rfl, ?_⟩) (by assumption) ?_; rotate_left; focus (intro w_ hSw_; (try dsimp only at hSw_); go_simp; try with_reducible rfl); try simp only [Act.put, List.setIfInBounds_toArray, List.set_cons_zero, List.set_cons_succ])
  (refine wpAnyH_take2 (i := 1) (d := some 61) (v := ?_) rfl rfl (by kernel_rfl) (by kernel_rfl) (by kernel_rfl) (fun _ _ _ h => h) (Or.inl ⟨by rfl, ?_⟩) (by assumption) ?_; rotate_left; focus (intro w_ hSw_; (try dsimp only at hSw_); go_simp; try with_reducible rfl); try simp only [Act.put, List.setIfInBounds_toArray, List.set_cons_zero, List.set_cons_succ])
  (refine wpAnyH_take2 (i := 2) (d := some 62) (v := ?_) rfl rfl (by kernel_rfl) (by kernel_rfl) (by kernel_rfl) (fun _ _ _ h => h) (Or.inl ⟨by rfl, ?_⟩) (by assumption) ?_; rotate_left; focus (intro w_ hSw_; (try dsimp only at hSw_); go_simp; try with_reducible rfl); try simp only [Act.put, List.setIfInBounds_toArray, List.set_cons_zero, List.set_cons_succ])
  (refine wpAnyH_take2 (i := 3) (d := some 63) (v := ?_) rfl rfl (by kernel_rfl) (by kernel_rfl) (by kernel_rfl) (fun _ _ _ h => h) (Or.inl ⟨by rfl, ?_⟩) (by assumption) ?_; rotate_left; focus (intro w_ hSw_; (try dsimp only at hSw_); go_simp; try with_reducible rfl); try simp only [Act.put, List.setIfInBounds_toArray, List.set_cons_zero, List.set_cons_succ])
  (refine wpAnyH_take2 (i := 4) (d := some 64) (v := ?_) rfl rfl (by kernel_rfl) (by kernel_rfl) (by kernel_rfl) (fun _ _ _ h => h) (Or.inl ⟨by kernel_rfl, ?_⟩) (by assumption) ?_; rotate_left; focus (intro w_ hSw_; (try dsimp only at hSw_); go_simp; try with_reducible rfl); try simp only [Act.put, List.setIfInBounds_toArray, List.set_cons_zero, List.set_cons_succ])
  (refine wpAnyH_take2 (i := 5) (d := some 65) (v := ?_) rfl rfl (by kernel_rfl) (by kernel_rfl) (by kernel_rfl) (fun _ _ _ h => h) (Or.inl ⟨by kernel_rfl, ?_⟩) (by assumption) ?_; rotate_left; focus (intro w_ hSw_; (try dsimp only at hSw_); go_simp; try with_reducible rfl); try simp only [Act.put, List.setIfInBounds_toArray, List.set_cons_zero, List.set_cons_succ])
  (refine wpAnyH_take2 (i := 6) (d := some 66) (v := ?_) rfl rfl (by kernel_rfl) (by kernel_rfl) (by kernel_rfl) (fun _ _ _ h => h) (Or.inl ⟨by kernel_rfl, ?_⟩) (by assumption) ?_; rotate_left; focus (intro w_ hSw_; (try dsimp only at hSw_); go_simp; try with_reducible rfl); try simp only [Act.put, List.setIfInBounds_toArray, List.set_cons_zero, List.set_cons_succ])
  (refine wpAnyH_take2 (i := 7) (d := some 67) (v := ?_) rfl rfl (by kernel_rfl) (by kernel_rfl) (by kernel_rfl) (fun _ _ _ h => h) (Or.inl ⟨by rfl, ?_⟩) (by assumption) ?_; rotate_left; focus (intro w_ hSw_; (try dsimp only at hSw_); go_simp; try with_reducible rfl); try simp only [Act.put, List.setIfInBounds_toArray, List.set_cons_zero, List.set_cons_succ])
  (refine wpAnyH_take2 (i := 8) (d := some 68) (v := ?_) rfl rfl (by kernel_rfl) (by kernel_rfl) (by kernel_rfl) (fun _ _ _ h => h) (Or.inl ⟨by rfl, ?_⟩) (by assumption) ?_; rotate_left; focus (intro w_ hSw_; (try dsimp only at hSw_); go_simp; try with_reducible rfl); try simp only [Act.put, List.setIfInBounds_toArray, List.set_cons_zero, List.set_cons_succ])
  (refine wpAnyH_take2 (i := 9) (d := some 69) (v := ?_) rfl rfl (by kernel_rfl) (by kernel_rfl) (by kernel_rfl) (fun _ _ _ h => h) (Or.inl ⟨by kernel_rfl, ?_⟩) (by assumption) ?_; rotate_left; focus (intro w_ hSw_; (try dsimp only at hSw_); go_simp; try with_reducible rfl); try simp only [Act.put, List.setIfInBounds_toArray, List.set_cons_zero, List.set_cons_succ])
  (refine wpAnyH_take2 (i := 10) (d := some 70) (v := ?_) rfl rfl (by kernel_rfl) (by kernel_rfl) (by kernel_rfl) (fun _ _ _ h => h) (Or.inl ⟨by kernel_rfl, ?_⟩) (by assumption) ?_; rotate_left; focus (intro w_ hSw_; (try dsimp only at hSw_); go_simp; try with_reducible rfl); try simp only [Act.put, List.setIfInBounds_toArray, List.set_cons_zero, List.set_cons_succ])
  (refine wpAnyH_take2 (i := 11) (d := some 71) (v := ?_) rfl rfl (by kernel_rfl) (by kernel_rfl) (by kernel_rfl) (fun _ _ _ h => h) (Or.inl ⟨by kernel_rfl, ?_⟩) (by assumption) ?_; rotate_left; focus (intro w_ hSw_; (try dsimp only at hSw_); go_simp; try with_reducible rfl); try simp only [Act.put, List.setIfInBounds_toArray, List.set_cons_zero, List.set_cons_succ])
  (refine wpAnyH_take2 (i := 12) (d := some 72) (v := ?_) rfl rfl (by kernel_rfl) (by kernel_rfl) (by kernel_rfl) (fun _ _ _ h => h) (Or.inl ⟨by rfl, ?_⟩) (by assumption) ?_; rotate_left; focus (intro w_ hSw_; (try dsimp only at hSw_); go_simp; try with_reducible rfl); try simp only [Act.put, List.setIfInBounds_toArray, List.set_cons_zero, List.set_cons_succ])
  (refine wpAnyH_take2 (i := 13) (d := some 73) (v := ?_) rfl rfl (by kernel_rfl) (by kernel_rfl) (by kernel_rfl) (fun _ _ _ h => h) (Or.inl ⟨by rfl, ?_⟩) (by assumption) ?_; rotate_left; focus (intro w_ hSw_; (try dsimp only at hSw_); go_simp; try with_reducible rfl); try simp only [Act.put, List.setIfInBounds_toArray, List.set_cons_zero, List.set_cons_succ])
  (refine wpAnyH_take2 (i := 14) (d := some 74) (v := ?_) rfl rfl (by kernel_rfl) (by kernel_rfl) (by kernel_rfl) (fun _ _ _ h => h) (Or.inl ⟨by kernel_rfl, ?_⟩) (by assumption) ?_; rotate_left; focus (intro w_ hSw_; (try dsimp only at hSw_); go_simp; try with_reducible rfl); try simp only [Act.put, List.setIfInBounds_toArray, List.set_cons_zero, List.set_cons_succ])
  (refine wpAnyH_take2 (i := 15) (d := some 75) (v := ?_) rfl rfl (by kernel_rfl) (by kernel_rfl) (by kernel_rfl) (fun _ _ _ h => h) (Or.inl ⟨by kernel_rfl, ?_⟩) (by assumption) ?_; rotate_left; focus (intro w_ hSw_; (try dsimp only at hSw_); go_simp; try with_reducible rfl); try simp only [Act.put, List.setIfInBounds_toArray, List.set_cons_zero, List.set_cons_succ])
  (refine wpAnyH_take2 (i := 16) (d := some 76) (v := ?_) rfl rfl (by kernel_rfl) (by kernel_rfl) (by kernel_rfl) (fun _ _ _ h => h) (Or.inl ⟨by kernel_rfl, ?_⟩) (by assumption) ?_; rotate_left; focus (intro w_ hSw_; (try dsimp only at hSw_); go_simp; try with_reducible rfl); try simp only [Act.put, List.setIfInBounds_toArray, List.set_cons_zero, List.set_cons_succ])
  (refine wpAnyH_take2 (i := 17) (d := some 77) (v := ?_) rfl rfl (by kernel_rfl) (by kernel_rfl) (by kernel_rfl) (fun _ _ _ h => h) (Or.inl ⟨by rfl, ?_⟩) (by assumption) ?_; rotate_left; focus (intro w_ hSw_; (try dsimp only at hSw_); go_simp; try with_reducible rfl); try simp only [Act.put, List.setIfInBounds_toArray, List.set_cons_zero, List.set_cons_succ])
  (refine wpAnyH_take2 (i := 18) (d := some 78) (v := ?_) rfl rfl (by kernel_rfl) (by kernel_rfl) (by kernel_rfl) (fun _ _ _ h => h) (Or.inl ⟨by rfl, ?_⟩) (by assumption) ?_; rotate_left; focus (intro w_ hSw_; (try dsimp only at hSw_); go_simp; try with_reducible rfl); try simp only [Act.put, List.setIfInBounds_toArray, List.set_cons_zero, List.set_cons_succ])
  (refine wpAnyH_take2 (i := 19) (d := some 79) (v := ?_) rfl rfl (by kernel_rfl) (by kernel_rfl) (by kernel_rfl) (fun _ _ _ h => h) (Or.inl ⟨by kernel_rfl, ?_⟩) (by assumption) ?_; rotate_left; focus (intro w_ hSw_; (try dsimp only at hSw_); go_simp; try with_reducible rfl); try simp only [Act.put, List.setIfInBounds_toArray, List.set_cons_zero, List.set_cons_succ])
  (refine wpAnyH_take2 (i := 20) (d := some 80) (v := ?_) rfl rfl (by kernel_rfl) (by kernel_rfl) (by kernel_rfl) (fun _ _ _ h => h) (Or.inl ⟨by kernel_rfl, ?_⟩) (by assumption) ?_; rotate_left; focus (intro w_ hSw_; (try dsimp only at hSw_); go_simp; try with_reducible rfl); try simp only [Act.put, List.setIfInBounds_toArray, List.set_cons_zero, List.set_cons_succ])
  (refine wpAnyH_take2 (i := 21) (d := some 81) (v := ?_) rfl rfl (by kernel_rfl) (by kernel_rfl) (by kernel_rfl) (fun _ _ _ h => h) (Or.inl ⟨by kernel_rfl, ?_⟩) (by assumption) ?_; rotate_left; focus (intro w_ hSw_; (try dsimp only at hSw_); go_simp; try with_reducible rfl); try simp only [Act.put, List.setIfInBounds_toArray, List.set_cons_zero, List.set_cons_succ])
  (refine wpAnyH_take2 (i := 22) (d := some 82) (v := ?_) rfl rfl (by kernel_rfl) (by kernel_rfl) (by kernel_rfl) (fun _ _ _ h => h) (Or.inl ⟨by rfl, ?_⟩) (by assumption) ?_; rotate_left; focus (intro w_ hSw_; (try dsimp only at hSw_); go_simp; try with_reducible rfl); try simp only [Act.put, List.setIfInBounds_toArray, List.set_cons_zero, List.set_cons_succ])
  (refine wpAnyH_take2 (i := 23) (d := some 83) (v := ?_) rfl rfl (by kernel_rfl) (by kernel_rfl) (by kernel_rfl) (fun _ _ _ h => h) (Or.inl ⟨by rfl, ?_⟩) (by assumption) ?_; rotate_left; focus (intro w_ hSw_; (try dsimp only at hSw_); go_simp; try with_reducible rfl); try simp only [Act.put, List.setIfInBounds_toArray, List.set_cons_zero, List.set_cons_succ])
  (refine wpAnyH_take2 (i := 24) (d := some 84) (v := ?_) rfl rfl (by kernel_rfl) (by kernel_rfl) (by kernel_rfl) (fun _ _ _ h => h) (Or.inl ⟨by kernel_rfl, ?_⟩) (by assumption) ?_; rotate_left; focus (intro w_ hSw_; (try dsimp only at hSw_); go_simp; try with_reducible rfl); try simp only [Act.put, List.setIfInBounds_toArray, List.set_cons_zero, List.set_cons_succ])
  (refine wpAnyH_take2 (i := 26) (d := some 86) (v := ?_) rfl rfl (by kernel_rfl) (by kernel_rfl) (by kernel_rfl) (fun _ _ _ h => h) (Or.inl ⟨by kernel_rfl, ?_⟩) (by assumption) ?_; rotate_left; focus (intro w_ hSw_; (try dsimp only at hSw_); go_simp; try with_reducible rfl); try simp only [Act.put, List.setIfInBounds_toArray, List.set_cons_zero, List.set_cons_succ])
  (refine wpAnyH_take2 (i := 27) (d := some 87) (v := ?_) rfl rfl (by kernel_rfl) (by kernel_rfl) (by kernel_rfl) (fun _ _ _ h => h) (Or.inl ⟨by kernel_rfl, ?_⟩) (by assumption) ?_; rotate_left; focus (intro w_ hSw_; (try dsimp only at hSw_); go_simp; try with_reducible rfl); try simp only [Act.put, List.setIfInBounds_toArray, List.set_cons_zero, List.set_cons_succ])
  (refine wpAnyH_ready (rs := [25]) (by kernel_rfl) (by simp) ?_; refine AllReadyH.cons rfl (fun K hK => ?_) AllReadyH.nil; go_simp; go_at_call 11; refine (M1.out _).mono ?_; rintro e w8 ⟨rfl, hb⟩; have HB8 := Lib.hid (HB7.out.trans (hb.mono HB7.out.size)); have HO8 := Lib.hid ((hb.block w.heap.size (blk_lt HO7.out)).trans HO7.out); have HP8 := Lib.hid ((hb.block bp (blk_lt HP7.out)).trans HP7.out); have HQ8 := Lib.hid ((hb.block bq (blk_lt HQ7.out)).trans HQ7.out); clear hb; refine hK.out _ _ (by (try dsimp only); exact ⟨blk_cell HO8.out 0, blk_cell HO8.out 1, blk_cell HO8.out 2, blk_cell HO8.out 3, blk_cell HO8.out 4, blk_cell HP8.out 0, blk_cell HP8.out 1, blk_cell HP8.out 2, blk_cell HP8.out 3, blk_cell HP8.out 4, blk_cell HQ8.out 0, blk_cell HQ8.out 1, blk_cell HQ8.out 2, blk_cell HQ8.out 3, blk_cell HQ8.out 4⟩) (fun hHeld2 => ?_); clear hK K; clear hHeld; have hHeld := hHeld2; clear hHeld2; try simp only [Act.put, List.setIfInBounds_toArray, List.set_cons_zero, List.set_cons_succ])
  (refine wpAnyH_take2 (i := 28) (d := some 88) (v := ?_) rfl rfl (by kernel_rfl) (by kernel_rfl) (by kernel_rfl) (fun _ _ _ h => h) (Or.inl ⟨by kernel_rfl, ?_⟩) (by assumption) ?_; rotate_left; focus (intro w_ hSw_; (try dsimp only at hSw_); go_simp; try with_reducible rfl); try simp only [Act.put, List.setIfInBounds_toArray, List.set_cons_zero, List.set_cons_succ])
  (refine wpAnyH_take2 (i := 29) (d := some 89) (v := ?_) rfl rfl (by kernel_rfl) (by kernel_rfl) (by kernel_rfl) (fun _ _ _ h => h) (Or.inl ⟨by rfl, ?_⟩) (by assumption) ?_; rotate_left; focus (intro w_ hSw_; (try dsimp only at hSw_); go_simp; try with_reducible rfl); try simp only [Act.put, List.setIfInBounds_toArray, List.set_cons_zero, List.set_cons_succ])
  (refine wpAnyH_take2 (i := 30) (d := some 90) (v := ?_) rfl rfl (by kernel_rfl) (by kernel_rfl) (by kernel_rfl) (fun _ _ _ h => h) (Or.inl ⟨by rfl, ?_⟩) (by assumption) ?_; rotate_left; focus (intro w_ hSw_; (try dsimp only at hSw_); go_simp; try with_reducible rfl); try simp only [Act.put, List.setIfInBounds_toArray, List.set_cons_zero, List.set_cons_succ])
  (refine wpAnyH_take2 (i := 31) (d := some 91) (v := ?_) rfl rfl (by kernel_rfl) (by kernel_rfl) (by kernel_rfl) (fun _ _ _ h => h) (Or.inl ⟨by kernel_rfl, ?_⟩) (by assumption) ?_; rotate_left; focus (intro w_ hSw_; (try dsimp only at hSw_); go_simp; try with_reducible rfl); try simp only [Act.put, List.setIfInBounds_toArray, List.set_cons_zero, List.set_cons_succ])
  (refine wpAnyH_take2 (i := 33) (d := some 93) (v := ?_) rfl rfl (by kernel_rfl) (by kernel_rfl) (by kernel_rfl) (fun _ _ _ h => h) (Or.inl ⟨by kernel_rfl, ?_⟩) (by assumption) ?_; rotate_left; focus (intro w_ hSw_; (try dsimp only at hSw_); go_simp; try with_reducible rfl); try simp only [Act.put, List.setIfInBounds_toArray, List.set_cons_zero, List.set_cons_succ])
  (refine wpAnyH_take2 (i := 34) (d := some 94) (v := ?_) rfl rfl (by kernel_rfl) (by kernel_rfl) (by kernel_rfl) (fun _ _ _ h => h) (Or.inl ⟨by kernel_rfl, ?_⟩) (by assumption) ?_; rotate_left; focus (intro w_ hSw_; (try dsimp only at hSw_); go_simp; try with_reducible rfl); try simp only [Act.put, List.setIfInBounds_toArray, List.set_cons_zero, List.set_cons_succ])
  (refine wpAnyH_take2 (i := 35) (d := some 95) (v := ?_) rfl rfl (by kernel_rfl) (by kernel_rfl) (by kernel_rfl) (fun _ _ _ h => h) (Or.inl ⟨by kernel_rfl, ?_⟩) (by assumption) ?_; rotate_left; focus (intro w_ hSw_; (try dsimp only at hSw_); go_simp; try with_reducible rfl); try simp only [Act.put, List.setIfInBounds_toArray, List.set_cons_zero, List.set_cons_succ])
  (refine wpAnyH_ready (rs := [32]) (by kernel_rfl) (by simp) ?_; refine AllReadyH.cons rfl (fun K hK => ?_) AllReadyH.nil; go_simp; go_at_call 12; refine (chg_gen _ _ _ _ _ _).mono ?_; rintro e w9 ⟨rfl, hb⟩; have HB9 := Lib.hid (HB8.out.trans (hb.mono HB8.out.size)); have HO9 := Lib.hid ((hb.block w.heap.size (blk_lt HO8.out)).trans HO8.out); have HP9 := Lib.hid ((hb.block bp (blk_lt HP8.out)).trans HP8.out); have HQ9 := Lib.hid ((hb.block bq (blk_lt HQ8.out)).trans HQ8.out); clear hb; refine hK.out _ _ (by (try dsimp only); exact ⟨blk_cell HO9.out 0, blk_cell HO9.out 1, blk_cell HO9.out 2, blk_cell HO9.out 3, blk_cell HO9.out 4, blk_cell HP9.out 0, blk_cell HP9.out 1, blk_cell HP9.out 2, blk_cell HP9.out 3, blk_cell HP9.out 4, blk_cell HQ9.out 0, blk_cell HQ9.out 1, blk_cell HQ9.out 2, blk_cell HQ9.out 3, blk_cell HQ9.out 4⟩) (fun hHeld2 => ?_); clear hK K; clear hHeld; have hHeld := hHeld2; clear hHeld2; try simp only [Act.put, List.setIfInBounds_toArray, List.set_cons_zero, List.set_cons_succ])
  (refine wpAnyH_take2 (i := 36) (d := some 96) (v := ?_) rfl rfl (by kernel_rfl) (by kernel_rfl) (by kernel_rfl) (fun _ _ _ h => h) (Or.inl ⟨by kernel_rfl, ?_⟩) (by assumption) ?_; rotate_left; focus (intro w_ hSw_; (try dsimp only at hSw_); go_simp; try with_reducible rfl); try simp only [Act.put, List.setIfInBounds_toArray, List.set_cons_zero, List.set_cons_succ])
  (refine wpAnyH_take2 (i := 37) (d := some 97) (v := ?_) rfl rfl (by kernel_rfl) (by kernel_rfl) (by kernel_rfl) (fun _ _ _ h => h) (Or.inl ⟨by kernel_rfl, ?_⟩) (by assumption) ?_; rotate_left; focus (intro w_ hSw_; (try dsimp only at hSw_); go_simp; try with_reducible rfl); try simp only [Act.put, List.setIfInBounds_toArray, List.set_cons_zero, List.set_cons_succ])
  (refine wpAnyH_take2 (i := 38) (d := some 98) (v := ?_) rfl rfl (by kernel_rfl) (by kernel_rfl) (by kernel_rfl) (fun _ _ _ h => h) (Or.inl ⟨by kernel_rfl, ?_⟩) (by assumption) ?_; rotate_left; focus (intro w_ hSw_; (try dsimp only at hSw_); go_simp; try with_reducible rfl); try simp only [Act.put, List.setIfInBounds_toArray, List.set_cons_zero, List.set_cons_succ])
  (refine wpAnyH_take2 (i := 39) (d := some 99) (v := ?_) rfl rfl (by kernel_rfl) (by kernel_rfl) (by kernel_rfl) (fun _ _ _ h => h) (Or.inl ⟨by kernel_rfl, ?_⟩) (by assumption) ?_; rotate_left; focus (intro w_ hSw_; (try dsimp only at hSw_); go_simp; try with_reducible rfl); try simp only [Act.put, List.setIfInBounds_toArray, List.set_cons_zero, List.set_cons_succ])
  (refine wpAnyH_take2 (i := 40) (d := some 100) (v := ?_) rfl rfl (by kernel_rfl) (by kernel_rfl) (by kernel_rfl) (fun _ _ _ h => h) (Or.inl ⟨by kernel_rfl, ?_⟩) (by assumption) ?_; rotate_left; focus (intro w_ hSw_; (try dsimp only at hSw_); go_simp; try with_reducible rfl); try simp only [Act.put, List.setIfInBounds_toArray, List.set_cons_zero, List.set_cons_succ])
  (refine wpAnyH_take2 (i := 41) (d := some 101) (v := ?_) rfl rfl (by kernel_rfl) (by kernel_rfl) (by kernel_rfl) (fun _ _ _ h => h) (Or.inl ⟨by kernel_rfl, ?_⟩) (by assumption) ?_; rotate_left; focus (intro w_ hSw_; (try dsimp only at hSw_); go_simp; try with_reducible rfl); try simp only [Act.put, List.setIfInBounds_toArray, List.set_cons_zero, List.set_cons_succ])
  (refine wpAnyH_take2 (i := 42) (d := some 102) (v := ?_) rfl rfl (by kernel_rfl) (by kernel_rfl) (by kernel_rfl) (fun _ _ _ h => h) (Or.inl ⟨by kernel_rfl, ?_⟩) (by assumption) ?_; rotate_left; focus (intro w_ hSw_; (try dsimp only at hSw_); go_simp; try with_reducible rfl); try simp only [Act.put, List.setIfInBounds_toArray, List.set_cons_zero, List.set_cons_succ])
  (refine wpAnyH_take2 (i := 43) (d := some 103) (v := ?_) rfl rfl (by kernel_rfl) (by kernel_rfl) (by kernel_rfl) (fun _ _ _ h => h) (Or.inl ⟨by kernel_rfl, ?_⟩) (by assumption) ?_; rotate_left; focus (intro w_ hSw_; (try dsimp only at hSw_); go_simp; try with_reducible rfl); try simp only [Act.put, List.setIfInBounds_toArray, List.set_cons_zero, List.set_cons_succ])
  (refine wpAnyH_take2 (i := 44) (d := some 104) (v := ?_) rfl rfl (by kernel_rfl) (by kernel_rfl) (by kernel_rfl) (fun _ _ _ h => h) (Or.inl ⟨by kernel_rfl, ?_⟩) (by assumption) ?_; rotate_left; focus (intro w_ hSw_; (try dsimp only at hSw_); go_simp; try with_reducible rfl); try simp only [Act.put, List.setIfInBounds_toArray, List.set_cons_zero, List.set_cons_succ])
  (refine wpAnyH_take2 (i := 45) (d := some 105) (v := ?_) rfl rfl (by kernel_rfl) (by kernel_rfl) (by kernel_rfl) (fun _ _ _ h => h) (Or.inl ⟨by kernel_rfl, ?_⟩) (by assumption) ?_; rotate_left; focus (intro w_ hSw_; (try dsimp only at hSw_); go_simp; try with_reducible rfl); try simp only [Act.put, List.setIfInBounds_toArray, List.set_cons_zero, List.set_cons_succ])
  (refine wpAnyH_take2 (i := 46) (d := some 106) (v := ?_) rfl rfl (by kernel_rfl) (by kernel_rfl) (by kernel_rfl) (fun _ _ _ h => h) (Or.inl ⟨by kernel_rfl, ?_⟩) (by assumption) ?_; rotate_left; focus (intro w_ hSw_; (try dsimp only at hSw_); go_simp; try with_reducible rfl); try simp only [Act.put, List.setIfInBounds_toArray, List.set_cons_zero, List.set_cons_succ])
  (refine wpAnyH_take2 (i := 47) (d := some 107) (v := ?_) rfl rfl (by kernel_rfl) (by kernel_rfl) (by kernel_rfl) (fun _ _ _ h => h) (Or.inl ⟨by rfl, ?_⟩) (by assumption) ?_; rotate_left; focus (intro w_ hSw_; (try dsimp only at hSw_); go_simp; try with_reducible rfl); try simp only [Act.put, List.setIfInBounds_toArray, List.set_cons_zero, List.set_cons_succ])
  (refine wpAnyH_take2 (i := 48) (d := some 4) (v := ?_) rfl rfl (by kernel_rfl) (by kernel_rfl) (by kernel_rfl) (fun _ _ _ h => h) (Or.inl ⟨by rfl, ?_⟩) (by assumption) ?_; rotate_left; focus (intro w_ hSw_; (try dsimp only at hSw_); go_simp; try with_reducible rfl); try simp only [Act.put, List.setIfInBounds_toArray, List.set_cons_zero, List.set_cons_succ])
  refine wpAnyH_done (by kernel_rfl) ?_ _
  go_wp2
  go_ret
  exact ⟨congrArg _ (put4 _ _ (by simp only [Act.put, Array.size_setIfInBounds]; show 4 < 108; decide)), HB9.out⟩
set_option maxHeartbeats 8000000 in
set_option maxRecDepth 100000 in
theorem OrderTells_b (o : Ord) (s : ByteArray) (h0 : -9223372036854775808 ≤ o.n) (h1 : o.n ≤ 9223372036854775807) (g5 : 1 ≤ o.k) (g6 : o.k ≤ 9) (g7 : ¬ o.k = 7) (w : World) (ht : Tab w) :
    Calls Tryd.prog 3 #[ordV o, .string s] w fun e w' => e = .returned (.bool true) ∧ Below w.heap.size w w' := by
  have Hg5 := Lib.hid g5
  have Hg6 := Lib.hid g6
  have Hg7 := Lib.hid g7
  clear g5 g6 g7
  have hu := Tryd.underlying23
  have HT := Lib.hid ht
  have H0 := Lib.hid h0
  have H1 := Lib.hid h1
  clear ht h0 h1
  obtain ⟨p, at_, er, hr⟩ : ∃ p at_ er, readR s = (p, at_, er) := ⟨_, _, _, rfl⟩
  have HR := Lib.hid hr
  clear hr
  go_enter Tryd.func3, Tryd.ntmps3
  obtain ⟨W, hW⟩ : ∃ W, W = w.alloc (.cells #[Value.int IntKind.i64 o.k, Value.string o.c, Value.string o.e, Value.string o.u, Value.int IntKind.i64 o.n] 23) := ⟨_, rfl⟩
  have HB0 : Hid (Below w.heap.size w W) := by show Below _ _ _; rw [hW]; exact boxO w o
  have HO0 : Hid (W.heap[w.heap.size]? = some (Obj.cells #[Value.int IntKind.i64 o.k, Value.string o.c, Value.string o.e, Value.string o.u, Value.int IntKind.i64 o.n] 23 (0, 0))) := by show _ = _; rw [hW]; exact blk_new w _
  have hW2 := hW.symm
  clear hW
  go_upto_region 3 with (go_at_call 6; refine (awake_any _ (tab_below HT.out HB0.out)).mono ?_; rintro e w1 ⟨rfl, hb⟩; have HB1 := Lib.hid (HB0.out.trans (hb.mono HB0.out.size)); have HO1 := Lib.hid ((hb.block w.heap.size (blk_lt HO0.out)).trans HO0.out); clear hb)
  clear hW2
  have y0 : w1.cell? ⟨w.heap.size, 0, none⟩ = some (.int .i64 o.k) := blk_cell HO1.out 0
  have y1 : w1.cell? ⟨w.heap.size, 1, none⟩ = some (.string o.c) := blk_cell HO1.out 1
  have y2 : w1.cell? ⟨w.heap.size, 2, none⟩ = some (.string o.e) := blk_cell HO1.out 2
  have y3 : w1.cell? ⟨w.heap.size, 3, none⟩ = some (.string o.u) := blk_cell HO1.out 3
  have y4 : w1.cell? ⟨w.heap.size, 4, none⟩ = some (.int .i64 o.n) := blk_cell HO1.out 4
  by_cases g4 : (1024 : Int) < (s.size : Int)
  · go_wp2
    go_ret
    exact ⟨rfl, HB1.out⟩
  by_cases g1 : (100 : Int) < (o.c.size : Int)
  · go_wp2
    go_ret
    exact ⟨rfl, HB1.out⟩
  by_cases g2 : (100 : Int) < (o.e.size : Int)
  · go_wp2
    go_ret
    exact ⟨rfl, HB1.out⟩
  by_cases g3 : (100 : Int) < (o.u.size : Int)
  · go_wp2
    go_ret
    exact ⟨rfl, HB1.out⟩
  have hrd := Lib.hid (fun W' => read_of HR.out (by omega) W')
  obtain ⟨t, y, hw⟩ : ∃ t y, writeR o = (t, y) := ⟨_, _, rfl⟩
  have hyb : (y == 0) = mayO o := by
    unfold writeR at hw
    cases hM : mayO o <;> rw [hM] at hw
    · have : (2 : Int) = y := congrArg (·.2) hw
      rw [← this]; rfl
    · have : (0 : Int) = y := congrArg (·.2) hw
      rw [← this]; rfl
  have W1 := Lib.hid (fun W' (hW : Tab W') => write_of hw (by omega) (by omega) (by omega) H0.out H1.out W' hW)
  have W2 : Hid (∀ W', Calls Tryd.prog 8 #[.agg #[Value.int IntKind.i64 o.k, Value.string o.c, Value.string o.e, Value.string o.u, Value.int IntKind.i64 o.n]] W' fun e w' => e = .returned (.tuple #[.string t, .int .i64 y]) ∧ Below W'.heap.size W' w') := fun W' => by have h := R15Write_any o (by omega) (by omega) (by omega) W'; rw [hw] at h; exact h
  have R2 : Hid (∀ W', Calls Tryd.prog 10 #[.string s] W' fun e w' => e = .returned (.tuple #[.agg #[Value.int IntKind.i64 p.k, Value.string p.c, Value.string p.e, Value.string p.u, Value.int IntKind.i64 p.n], .int .i64 at_, .int .i64 er]) ∧ Below W'.heap.size W' w') := fun W' => by have h := R15Read_any s (by omega) W'; rw [HR.out] at h; exact h
  have M1 := Lib.hid (fun W' => may_of (o := o) rfl (by omega) (by omega) (by omega) W')
  clear hw
  go_upto_region 6 with (go_at_call 7; refine (W1.out _ (tab_below HT.out HB1.out)).mono ?_; rintro e w2 ⟨rfl, hb⟩; have HB2 := Lib.hid (HB1.out.trans (hb.mono HB1.out.size)); have HO2 := Lib.hid ((hb.block w.heap.size (blk_lt HO1.out)).trans HO1.out); clear hb)
  clear y0 y1 y2 y3 y4
  obtain ⟨y0, y1, y2, y3, y4, _, _, _, _, _⟩ := resF HO2.out
  go_upto_region 7 with (go_at_call 8; refine (W2.out _).mono ?_; rintro e w3 ⟨rfl, hb⟩; have HB3 := Lib.hid (HB2.out.trans (hb.mono HB2.out.size)); have HO3 := Lib.hid ((hb.block w.heap.size (blk_lt HO2.out)).trans HO2.out); clear hb)
  clear y0 y1 y2 y3 y4
  go_upto_region 8 with (go_at_call 9; refine (hrd.out _).mono ?_; rintro e w4 ⟨rfl, hb⟩; have HB4 := Lib.hid (HB3.out.trans (hb.mono HB3.out.size)); have HO4 := Lib.hid ((hb.block w.heap.size (blk_lt HO3.out)).trans HO3.out); clear hb)
  obtain ⟨w5, hw5⟩ : ∃ w5, w5 = w4.alloc (.cells #[Value.int IntKind.i64 p.k, Value.string p.c, Value.string p.e, Value.string p.u, Value.int IntKind.i64 p.n] 23) := ⟨_, rfl⟩
  rw [← hw5]
  have HB5 : Hid (Below w.heap.size w w5) := by show Below _ _ _; rw [hw5]; exact below_alloc HB4.out _
  have HO5 : Hid (w5.heap[w.heap.size]? = some (Obj.cells #[Value.int IntKind.i64 o.k, Value.string o.c, Value.string o.e, Value.string o.u, Value.int IntKind.i64 o.n] 23 (0, 0))) := by show _ = _; rw [hw5]; exact blk_alloc HO4.out _
  have HP5 : Hid (w5.heap[w4.heap.size]? = some (Obj.cells #[Value.int IntKind.i64 p.k, Value.string p.c, Value.string p.e, Value.string p.u, Value.int IntKind.i64 p.n] 23 (0, 0))) := by show _ = _; rw [hw5]; exact blk_new w4 _
  clear hw5
  generalize w4.heap.size = bp at *
  go_upto_region 9 with (go_at_call 10; refine (R2.out _).mono ?_; rintro e w6 ⟨rfl, hb⟩; have HB6 := Lib.hid (HB5.out.trans (hb.mono HB5.out.size)); have HO6 := Lib.hid ((hb.block w.heap.size (blk_lt HO5.out)).trans HO5.out); have HP6 := Lib.hid ((hb.block bp (blk_lt HP5.out)).trans HP5.out); clear hb)
  obtain ⟨w7, hw7⟩ : ∃ w7, w7 = w6.alloc (.cells #[Value.int IntKind.i64 p.k, Value.string p.c, Value.string p.e, Value.string p.u, Value.int IntKind.i64 p.n] 29) := ⟨_, rfl⟩
  rw [← hw7]
  have HB7 : Hid (Below w.heap.size w w7) := by show Below _ _ _; rw [hw7]; exact below_alloc HB6.out _
  have HO7 : Hid (w7.heap[w.heap.size]? = some (Obj.cells #[Value.int IntKind.i64 o.k, Value.string o.c, Value.string o.e, Value.string o.u, Value.int IntKind.i64 o.n] 23 (0, 0))) := by show _ = _; rw [hw7]; exact blk_alloc HO6.out _
  have HP7 : Hid (w7.heap[bp]? = some (Obj.cells #[Value.int IntKind.i64 p.k, Value.string p.c, Value.string p.e, Value.string p.u, Value.int IntKind.i64 p.n] 23 (0, 0))) := by show _ = _; rw [hw7]; exact blk_alloc HP6.out _
  have HQ7 : Hid (w7.heap[w6.heap.size]? = some (Obj.cells #[Value.int IntKind.i64 p.k, Value.string p.c, Value.string p.e, Value.string p.u, Value.int IntKind.i64 p.n] 29 (0, 0))) := by show _ = _; rw [hw7]; exact blk_new w6 _
  clear hw7
  generalize w6.heap.size = bq at *
  obtain ⟨x0, x1, x2, x3, x4, _, _, _, _, _⟩ := resF HO7.out
  obtain ⟨y0, y1, y2, y3, y4, _, _, _, _, _⟩ := resF HP7.out
  obtain ⟨z0, z1, z2, z3, z4, _, _, _, _, _⟩ := resFr HQ7.out
  have heq : ∀ W' : World, (binOp .eql 29 (.agg #[Value.int IntKind.i64 p.k, Value.string p.c, Value.string p.e, Value.string p.u, Value.int IntKind.i64 p.n]) (.agg #[Value.int IntKind.i64 p.k, Value.string p.c, Value.string p.e, Value.string p.u, Value.int IntKind.i64 p.n])).run Tryd.prog W' = .ok (.bool true) W' := fun W' => by have h := eqOrdR p p W'; rw [same_self] at h; exact h
  have hmb : ∀ b : Bool, mayO o = b → (y == 0) = b := fun b h => hyb.trans h
  have HYB := Lib.hid hmb
  clear hyb hmb
  generalize hmo : mayO o = mo at *
  have hy0 : (y == 0) = mo := HYB.out mo rfl
  clear hmo
  have g5 := Hg5.out
  have g6 := Hg6.out
  have g7 := Hg7.out
  clear Hg5 Hg6 Hg7
  have k5 : decide (1 ≤ o.k) = true := decide_eq_true g5
  have k6 : decide (o.k ≤ 9) = true := decide_eq_true g6
  have h7 : (o.k != 7) = true := by simp [g7]
  have hc : chgO o.k = true := by unfold chgO; rw [decide_eq_true g5, decide_eq_true g6, h7]; rfl
  clear g7
  have HB7d : Hid (Below w.heap.size w w7.drew) := HB7.out.drew
  clear HB7
  have HB7 := HB7d
  go_upto_region 9 with fail
  refine wp_region_held_drew (S := (fun w' => w'.cell? ⟨w.heap.size, 0, none⟩ = some (.int .i64 o.k) ∧ w'.cell? ⟨w.heap.size, 1, none⟩ = some (.string o.c) ∧ w'.cell? ⟨w.heap.size, 2, none⟩ = some (.string o.e) ∧ w'.cell? ⟨w.heap.size, 3, none⟩ = some (.string o.u) ∧ w'.cell? ⟨w.heap.size, 4, none⟩ = some (.int .i64 o.n) ∧ w'.cell? ⟨bp, 0, none⟩ = some (.int .i64 p.k) ∧ w'.cell? ⟨bp, 1, none⟩ = some (.string p.c) ∧ w'.cell? ⟨bp, 2, none⟩ = some (.string p.e) ∧ w'.cell? ⟨bp, 3, none⟩ = some (.string p.u) ∧ w'.cell? ⟨bp, 4, none⟩ = some (.int .i64 p.n) ∧ w'.cell? ⟨bq, 0, none⟩ = some (.int .i64 p.k) ∧ w'.cell? ⟨bq, 1, none⟩ = some (.string p.c) ∧ w'.cell? ⟨bq, 2, none⟩ = some (.string p.e) ∧ w'.cell? ⟨bq, 3, none⟩ = some (.string p.u) ∧ w'.cell? ⟨bq, 4, none⟩ = some (.int .i64 p.n))) (by kernel_rfl) (by (try dsimp only); exact ⟨x0, x1, x2, x3, x4, y0, y1, y2, y3, y4, z0, z1, z2, z3, z4⟩) (fun hHeld => ?_)
  (refine wpAnyH_take2 (i := 0) (d := some 60) (v := ?_) rfl rfl (by kernel_rfl) (by kernel_rfl) (by kernel_rfl) (fun _ _ _ h => h) (Or.inl ⟨by rfl, ?_⟩) (by assumption) ?_; rotate_left; focus (intro w_ hSw_; (try dsimp only at hSw_); go_simp; try with_reducible rfl); try simp only [Act.put, List.setIfInBounds_toArray, List.set_cons_zero, List.set_cons_succ])
  (refine wpAnyH_take2 (i := 1) (d := some 61) (v := ?_) rfl rfl (by kernel_rfl) (by kernel_rfl) (by kernel_rfl) (fun _ _ _ h => h) (Or.inl ⟨by rfl, ?_⟩) (by assumption) ?_; rotate_left; focus (intro w_ hSw_; (try dsimp only at hSw_); go_simp; try with_reducible rfl); try simp only [Act.put, List.setIfInBounds_toArray, List.set_cons_zero, List.set_cons_succ])
  (refine wpAnyH_take2 (i := 2) (d := some 62) (v := ?_) rfl rfl (by kernel_rfl) (by kernel_rfl) (by kernel_rfl) (fun _ _ _ h => h) (Or.inl ⟨by rfl, ?_⟩) (by assumption) ?_; rotate_left; focus (intro w_ hSw_; (try dsimp only at hSw_); go_simp; try with_reducible rfl); try simp only [Act.put, List.setIfInBounds_toArray, List.set_cons_zero, List.set_cons_succ])
  (refine wpAnyH_take2 (i := 3) (d := some 63) (v := ?_) rfl rfl (by kernel_rfl) (by kernel_rfl) (by kernel_rfl) (fun _ _ _ h => h) (Or.inl ⟨by rfl, ?_⟩) (by assumption) ?_; rotate_left; focus (intro w_ hSw_; (try dsimp only at hSw_); go_simp; try with_reducible rfl); try simp only [Act.put, List.setIfInBounds_toArray, List.set_cons_zero, List.set_cons_succ])
  (refine wpAnyH_take2 (i := 4) (d := some 64) (v := ?_) rfl rfl (by kernel_rfl) (by kernel_rfl) (by kernel_rfl) (fun _ _ _ h => h) (Or.inl ⟨by kernel_rfl, ?_⟩) (by assumption) ?_; rotate_left; focus (intro w_ hSw_; (try dsimp only at hSw_); go_simp; try with_reducible rfl); try simp only [Act.put, List.setIfInBounds_toArray, List.set_cons_zero, List.set_cons_succ])
  (refine wpAnyH_take2 (i := 5) (d := some 65) (v := ?_) rfl rfl (by kernel_rfl) (by kernel_rfl) (by kernel_rfl) (fun _ _ _ h => h) (Or.inl ⟨by kernel_rfl, ?_⟩) (by assumption) ?_; rotate_left; focus (intro w_ hSw_; (try dsimp only at hSw_); go_simp; try with_reducible rfl); try simp only [Act.put, List.setIfInBounds_toArray, List.set_cons_zero, List.set_cons_succ])
  (refine wpAnyH_take2 (i := 6) (d := some 66) (v := ?_) rfl rfl (by kernel_rfl) (by kernel_rfl) (by kernel_rfl) (fun _ _ _ h => h) (Or.inl ⟨by kernel_rfl, ?_⟩) (by assumption) ?_; rotate_left; focus (intro w_ hSw_; (try dsimp only at hSw_); go_simp; try with_reducible rfl); try simp only [Act.put, List.setIfInBounds_toArray, List.set_cons_zero, List.set_cons_succ])
  (refine wpAnyH_take2 (i := 7) (d := some 67) (v := ?_) rfl rfl (by kernel_rfl) (by kernel_rfl) (by kernel_rfl) (fun _ _ _ h => h) (Or.inl ⟨by rfl, ?_⟩) (by assumption) ?_; rotate_left; focus (intro w_ hSw_; (try dsimp only at hSw_); go_simp; try with_reducible rfl); try simp only [Act.put, List.setIfInBounds_toArray, List.set_cons_zero, List.set_cons_succ])
  (refine wpAnyH_take2 (i := 8) (d := some 68) (v := ?_) rfl rfl (by kernel_rfl) (by kernel_rfl) (by kernel_rfl) (fun _ _ _ h => h) (Or.inl ⟨by rfl, ?_⟩) (by assumption) ?_; rotate_left; focus (intro w_ hSw_; (try dsimp only at hSw_); go_simp; try with_reducible rfl); try simp only [Act.put, List.setIfInBounds_toArray, List.set_cons_zero, List.set_cons_succ])
  (refine wpAnyH_take2 (i := 9) (d := some 69) (v := ?_) rfl rfl (by kernel_rfl) (by kernel_rfl) (by kernel_rfl) (fun _ _ _ h => h) (Or.inl ⟨by kernel_rfl, ?_⟩) (by assumption) ?_; rotate_left; focus (intro w_ hSw_; (try dsimp only at hSw_); go_simp; try with_reducible rfl); try simp only [Act.put, List.setIfInBounds_toArray, List.set_cons_zero, List.set_cons_succ])
  (refine wpAnyH_take2 (i := 10) (d := some 70) (v := ?_) rfl rfl (by kernel_rfl) (by kernel_rfl) (by kernel_rfl) (fun _ _ _ h => h) (Or.inl ⟨by kernel_rfl, ?_⟩) (by assumption) ?_; rotate_left; focus (intro w_ hSw_; (try dsimp only at hSw_); go_simp; try with_reducible rfl); try simp only [Act.put, List.setIfInBounds_toArray, List.set_cons_zero, List.set_cons_succ])
  (refine wpAnyH_take2 (i := 11) (d := some 71) (v := ?_) rfl rfl (by kernel_rfl) (by kernel_rfl) (by kernel_rfl) (fun _ _ _ h => h) (Or.inl ⟨by kernel_rfl, ?_⟩) (by assumption) ?_; rotate_left; focus (intro w_ hSw_; (try dsimp only at hSw_); go_simp; try with_reducible rfl); try simp only [Act.put, List.setIfInBounds_toArray, List.set_cons_zero, List.set_cons_succ])
  (refine wpAnyH_take2 (i := 12) (d := some 72) (v := ?_) rfl rfl (by kernel_rfl) (by kernel_rfl) (by kernel_rfl) (fun _ _ _ h => h) (Or.inl ⟨by rfl, ?_⟩) (by assumption) ?_; rotate_left; focus (intro w_ hSw_; (try dsimp only at hSw_); go_simp; try with_reducible rfl); try simp only [Act.put, List.setIfInBounds_toArray, List.set_cons_zero, List.set_cons_succ])
  (refine wpAnyH_take2 (i := 13) (d := some 73) (v := ?_) rfl rfl (by kernel_rfl) (by kernel_rfl) (by kernel_rfl) (fun _ _ _ h => h) (Or.inl ⟨by rfl, ?_⟩) (by assumption) ?_; rotate_left; focus (intro w_ hSw_; (try dsimp only at hSw_); go_simp; try with_reducible rfl); try simp only [Act.put, List.setIfInBounds_toArray, List.set_cons_zero, List.set_cons_succ])
  (refine wpAnyH_take2 (i := 14) (d := some 74) (v := ?_) rfl rfl (by kernel_rfl) (by kernel_rfl) (by kernel_rfl) (fun _ _ _ h => h) (Or.inl ⟨by kernel_rfl, ?_⟩) (by assumption) ?_; rotate_left; focus (intro w_ hSw_; (try dsimp only at hSw_); go_simp; try with_reducible rfl); try simp only [Act.put, List.setIfInBounds_toArray, List.set_cons_zero, List.set_cons_succ])
  (refine wpAnyH_take2 (i := 15) (d := some 75) (v := ?_) rfl rfl (by kernel_rfl) (by kernel_rfl) (by kernel_rfl) (fun _ _ _ h => h) (Or.inl ⟨by kernel_rfl, ?_⟩) (by assumption) ?_; rotate_left; focus (intro w_ hSw_; (try dsimp only at hSw_); go_simp; try with_reducible rfl); try simp only [Act.put, List.setIfInBounds_toArray, List.set_cons_zero, List.set_cons_succ])
  (refine wpAnyH_take2 (i := 16) (d := some 76) (v := ?_) rfl rfl (by kernel_rfl) (by kernel_rfl) (by kernel_rfl) (fun _ _ _ h => h) (Or.inl ⟨by kernel_rfl, ?_⟩) (by assumption) ?_; rotate_left; focus (intro w_ hSw_; (try dsimp only at hSw_); go_simp; try with_reducible rfl); try simp only [Act.put, List.setIfInBounds_toArray, List.set_cons_zero, List.set_cons_succ])
  (refine wpAnyH_take2 (i := 17) (d := some 77) (v := ?_) rfl rfl (by kernel_rfl) (by kernel_rfl) (by kernel_rfl) (fun _ _ _ h => h) (Or.inl ⟨by rfl, ?_⟩) (by assumption) ?_; rotate_left; focus (intro w_ hSw_; (try dsimp only at hSw_); go_simp; try with_reducible rfl); try simp only [Act.put, List.setIfInBounds_toArray, List.set_cons_zero, List.set_cons_succ])
  (refine wpAnyH_take2 (i := 18) (d := some 78) (v := ?_) rfl rfl (by kernel_rfl) (by kernel_rfl) (by kernel_rfl) (fun _ _ _ h => h) (Or.inl ⟨by rfl, ?_⟩) (by assumption) ?_; rotate_left; focus (intro w_ hSw_; (try dsimp only at hSw_); go_simp; try with_reducible rfl); try simp only [Act.put, List.setIfInBounds_toArray, List.set_cons_zero, List.set_cons_succ])
  (refine wpAnyH_take2 (i := 19) (d := some 79) (v := ?_) rfl rfl (by kernel_rfl) (by kernel_rfl) (by kernel_rfl) (fun _ _ _ h => h) (Or.inl ⟨by kernel_rfl, ?_⟩) (by assumption) ?_; rotate_left; focus (intro w_ hSw_; (try dsimp only at hSw_); go_simp; try with_reducible rfl); try simp only [Act.put, List.setIfInBounds_toArray, List.set_cons_zero, List.set_cons_succ])
  (refine wpAnyH_take2 (i := 20) (d := some 80) (v := ?_) rfl rfl (by kernel_rfl) (by kernel_rfl) (by kernel_rfl) (fun _ _ _ h => h) (Or.inl ⟨by kernel_rfl, ?_⟩) (by assumption) ?_; rotate_left; focus (intro w_ hSw_; (try dsimp only at hSw_); go_simp; try with_reducible rfl); try simp only [Act.put, List.setIfInBounds_toArray, List.set_cons_zero, List.set_cons_succ])
  (refine wpAnyH_take2 (i := 21) (d := some 81) (v := ?_) rfl rfl (by kernel_rfl) (by kernel_rfl) (by kernel_rfl) (fun _ _ _ h => h) (Or.inl ⟨by kernel_rfl, ?_⟩) (by assumption) ?_; rotate_left; focus (intro w_ hSw_; (try dsimp only at hSw_); go_simp; try with_reducible rfl); try simp only [Act.put, List.setIfInBounds_toArray, List.set_cons_zero, List.set_cons_succ])
  (refine wpAnyH_take2 (i := 22) (d := some 82) (v := ?_) rfl rfl (by kernel_rfl) (by kernel_rfl) (by kernel_rfl) (fun _ _ _ h => h) (Or.inl ⟨by rfl, ?_⟩) (by assumption) ?_; rotate_left; focus (intro w_ hSw_; (try dsimp only at hSw_); go_simp; try with_reducible rfl); try simp only [Act.put, List.setIfInBounds_toArray, List.set_cons_zero, List.set_cons_succ])
  (refine wpAnyH_take2 (i := 23) (d := some 83) (v := ?_) rfl rfl (by kernel_rfl) (by kernel_rfl) (by kernel_rfl) (fun _ _ _ h => h) (Or.inl ⟨by rfl, ?_⟩) (by assumption) ?_; rotate_left; focus (intro w_ hSw_; (try dsimp only at hSw_); go_simp; try with_reducible rfl); try simp only [Act.put, List.setIfInBounds_toArray, List.set_cons_zero, List.set_cons_succ])
  (refine wpAnyH_take2 (i := 24) (d := some 84) (v := ?_) rfl rfl (by kernel_rfl) (by kernel_rfl) (by kernel_rfl) (fun _ _ _ h => h) (Or.inl ⟨by kernel_rfl, ?_⟩) (by assumption) ?_; rotate_left; focus (intro w_ hSw_; (try dsimp only at hSw_); go_simp; try with_reducible rfl); try simp only [Act.put, List.setIfInBounds_toArray, List.set_cons_zero, List.set_cons_succ])
  (refine wpAnyH_take2 (i := 26) (d := some 86) (v := ?_) rfl rfl (by kernel_rfl) (by kernel_rfl) (by kernel_rfl) (fun _ _ _ h => h) (Or.inl ⟨by kernel_rfl, ?_⟩) (by assumption) ?_; rotate_left; focus (intro w_ hSw_; (try dsimp only at hSw_); go_simp; try with_reducible rfl); try simp only [Act.put, List.setIfInBounds_toArray, List.set_cons_zero, List.set_cons_succ])
  (refine wpAnyH_take2 (i := 27) (d := some 87) (v := ?_) rfl rfl (by kernel_rfl) (by kernel_rfl) (by kernel_rfl) (fun _ _ _ h => h) (Or.inl ⟨by kernel_rfl, ?_⟩) (by assumption) ?_; rotate_left; focus (intro w_ hSw_; (try dsimp only at hSw_); go_simp; try with_reducible rfl); try simp only [Act.put, List.setIfInBounds_toArray, List.set_cons_zero, List.set_cons_succ])
  (refine wpAnyH_ready (rs := [25]) (by kernel_rfl) (by simp) ?_; refine AllReadyH.cons rfl (fun K hK => ?_) AllReadyH.nil; go_simp; go_at_call 11; refine (M1.out _).mono ?_; rintro e w8 ⟨rfl, hb⟩; have HB8 := Lib.hid (HB7.out.trans (hb.mono HB7.out.size)); have HO8 := Lib.hid ((hb.block w.heap.size (blk_lt HO7.out)).trans HO7.out); have HP8 := Lib.hid ((hb.block bp (blk_lt HP7.out)).trans HP7.out); have HQ8 := Lib.hid ((hb.block bq (blk_lt HQ7.out)).trans HQ7.out); clear hb; refine hK.out _ _ (by (try dsimp only); exact ⟨blk_cell HO8.out 0, blk_cell HO8.out 1, blk_cell HO8.out 2, blk_cell HO8.out 3, blk_cell HO8.out 4, blk_cell HP8.out 0, blk_cell HP8.out 1, blk_cell HP8.out 2, blk_cell HP8.out 3, blk_cell HP8.out 4, blk_cell HQ8.out 0, blk_cell HQ8.out 1, blk_cell HQ8.out 2, blk_cell HQ8.out 3, blk_cell HQ8.out 4⟩) (fun hHeld2 => ?_); clear hK K; clear hHeld; have hHeld := hHeld2; clear hHeld2; try simp only [Act.put, List.setIfInBounds_toArray, List.set_cons_zero, List.set_cons_succ])
  (refine wpAnyH_take2 (i := 28) (d := some 88) (v := ?_) rfl rfl (by kernel_rfl) (by kernel_rfl) (by kernel_rfl) (fun _ _ _ h => h) (Or.inl ⟨by kernel_rfl, ?_⟩) (by assumption) ?_; rotate_left; focus (intro w_ hSw_; (try dsimp only at hSw_); go_simp; try with_reducible rfl); try simp only [Act.put, List.setIfInBounds_toArray, List.set_cons_zero, List.set_cons_succ])
  (refine wpAnyH_take2 (i := 29) (d := some 89) (v := ?_) rfl rfl (by kernel_rfl) (by kernel_rfl) (by kernel_rfl) (fun _ _ _ h => h) (Or.inl ⟨by rfl, ?_⟩) (by assumption) ?_; rotate_left; focus (intro w_ hSw_; (try dsimp only at hSw_); go_simp; try with_reducible rfl); try simp only [Act.put, List.setIfInBounds_toArray, List.set_cons_zero, List.set_cons_succ])
  (refine wpAnyH_take2 (i := 30) (d := some 90) (v := ?_) rfl rfl (by kernel_rfl) (by kernel_rfl) (by kernel_rfl) (fun _ _ _ h => h) (Or.inl ⟨by rfl, ?_⟩) (by assumption) ?_; rotate_left; focus (intro w_ hSw_; (try dsimp only at hSw_); go_simp; try with_reducible rfl); try simp only [Act.put, List.setIfInBounds_toArray, List.set_cons_zero, List.set_cons_succ])
  (refine wpAnyH_take2 (i := 31) (d := some 91) (v := ?_) rfl rfl (by kernel_rfl) (by kernel_rfl) (by kernel_rfl) (fun _ _ _ h => h) (Or.inl ⟨by kernel_rfl, ?_⟩) (by assumption) ?_; rotate_left; focus (intro w_ hSw_; (try dsimp only at hSw_); go_simp; try with_reducible rfl); try simp only [Act.put, List.setIfInBounds_toArray, List.set_cons_zero, List.set_cons_succ])
  (refine wpAnyH_take2 (i := 33) (d := some 93) (v := ?_) rfl rfl (by kernel_rfl) (by kernel_rfl) (by kernel_rfl) (fun _ _ _ h => h) (Or.inl ⟨by kernel_rfl, ?_⟩) (by assumption) ?_; rotate_left; focus (intro w_ hSw_; (try dsimp only at hSw_); go_simp; try with_reducible rfl); try simp only [Act.put, List.setIfInBounds_toArray, List.set_cons_zero, List.set_cons_succ])
  (refine wpAnyH_take2 (i := 34) (d := some 94) (v := ?_) rfl rfl (by kernel_rfl) (by kernel_rfl) (by kernel_rfl) (fun _ _ _ h => h) (Or.inl ⟨by kernel_rfl, ?_⟩) (by assumption) ?_; rotate_left; focus (intro w_ hSw_; (try dsimp only at hSw_); go_simp; try with_reducible rfl); try simp only [Act.put, List.setIfInBounds_toArray, List.set_cons_zero, List.set_cons_succ])
  (refine wpAnyH_take2 (i := 35) (d := some 95) (v := ?_) rfl rfl (by kernel_rfl) (by kernel_rfl) (by kernel_rfl) (fun _ _ _ h => h) (Or.inl ⟨by kernel_rfl, ?_⟩) (by assumption) ?_; rotate_left; focus (intro w_ hSw_; (try dsimp only at hSw_); go_simp; try with_reducible rfl); try simp only [Act.put, List.setIfInBounds_toArray, List.set_cons_zero, List.set_cons_succ])
  (refine wpAnyH_ready (rs := [32]) (by kernel_rfl) (by simp) ?_; refine AllReadyH.cons rfl (fun K hK => ?_) AllReadyH.nil; go_simp; go_at_call 12; refine (chg_gen _ _ _ _ _ _).mono ?_; rintro e w9 ⟨rfl, hb⟩; have HB9 := Lib.hid (HB8.out.trans (hb.mono HB8.out.size)); have HO9 := Lib.hid ((hb.block w.heap.size (blk_lt HO8.out)).trans HO8.out); have HP9 := Lib.hid ((hb.block bp (blk_lt HP8.out)).trans HP8.out); have HQ9 := Lib.hid ((hb.block bq (blk_lt HQ8.out)).trans HQ8.out); clear hb; refine hK.out _ _ (by (try dsimp only); exact ⟨blk_cell HO9.out 0, blk_cell HO9.out 1, blk_cell HO9.out 2, blk_cell HO9.out 3, blk_cell HO9.out 4, blk_cell HP9.out 0, blk_cell HP9.out 1, blk_cell HP9.out 2, blk_cell HP9.out 3, blk_cell HP9.out 4, blk_cell HQ9.out 0, blk_cell HQ9.out 1, blk_cell HQ9.out 2, blk_cell HQ9.out 3, blk_cell HQ9.out 4⟩) (fun hHeld2 => ?_); clear hK K; clear hHeld; have hHeld := hHeld2; clear hHeld2; try simp only [Act.put, List.setIfInBounds_toArray, List.set_cons_zero, List.set_cons_succ])
  (refine wpAnyH_take2 (i := 36) (d := some 96) (v := ?_) rfl rfl (by kernel_rfl) (by kernel_rfl) (by kernel_rfl) (fun _ _ _ h => h) (Or.inl ⟨by kernel_rfl, ?_⟩) (by assumption) ?_; rotate_left; focus (intro w_ hSw_; (try dsimp only at hSw_); go_simp; try with_reducible rfl); try simp only [Act.put, List.setIfInBounds_toArray, List.set_cons_zero, List.set_cons_succ])
  (refine wpAnyH_take2 (i := 37) (d := some 97) (v := ?_) rfl rfl (by kernel_rfl) (by kernel_rfl) (by kernel_rfl) (fun _ _ _ h => h) (Or.inl ⟨by kernel_rfl, ?_⟩) (by assumption) ?_; rotate_left; focus (intro w_ hSw_; (try dsimp only at hSw_); go_simp; try with_reducible rfl); try simp only [Act.put, List.setIfInBounds_toArray, List.set_cons_zero, List.set_cons_succ])
  (refine wpAnyH_take2 (i := 38) (d := some 98) (v := ?_) rfl rfl (by kernel_rfl) (by kernel_rfl) (by kernel_rfl) (fun _ _ _ h => h) (Or.inl ⟨by kernel_rfl, ?_⟩) (by assumption) ?_; rotate_left; focus (intro w_ hSw_; (try dsimp only at hSw_); go_simp; try with_reducible rfl); try simp only [Act.put, List.setIfInBounds_toArray, List.set_cons_zero, List.set_cons_succ])
  (refine wpAnyH_take2 (i := 39) (d := some 99) (v := ?_) rfl rfl (by kernel_rfl) (by kernel_rfl) (by kernel_rfl) (fun _ _ _ h => h) (Or.inl ⟨by kernel_rfl, ?_⟩) (by assumption) ?_; rotate_left; focus (intro w_ hSw_; (try dsimp only at hSw_); go_simp; try with_reducible rfl); try simp only [Act.put, List.setIfInBounds_toArray, List.set_cons_zero, List.set_cons_succ])
  (refine wpAnyH_take2 (i := 40) (d := some 100) (v := ?_) rfl rfl (by kernel_rfl) (by kernel_rfl) (by kernel_rfl) (fun _ _ _ h => h) (Or.inl ⟨by kernel_rfl, ?_⟩) (by assumption) ?_; rotate_left; focus (intro w_ hSw_; (try dsimp only at hSw_); go_simp; try with_reducible rfl); try simp only [Act.put, List.setIfInBounds_toArray, List.set_cons_zero, List.set_cons_succ])
  (refine wpAnyH_take2 (i := 41) (d := some 101) (v := ?_) rfl rfl (by kernel_rfl) (by kernel_rfl) (by kernel_rfl) (fun _ _ _ h => h) (Or.inl ⟨by kernel_rfl, ?_⟩) (by assumption) ?_; rotate_left; focus (intro w_ hSw_; (try dsimp only at hSw_); go_simp; try with_reducible rfl); try simp only [Act.put, List.setIfInBounds_toArray, List.set_cons_zero, List.set_cons_succ])
  (refine wpAnyH_take2 (i := 42) (d := some 102) (v := ?_) rfl rfl (by kernel_rfl) (by kernel_rfl) (by kernel_rfl) (fun _ _ _ h => h) (Or.inl ⟨by kernel_rfl, ?_⟩) (by assumption) ?_; rotate_left; focus (intro w_ hSw_; (try dsimp only at hSw_); go_simp; try with_reducible rfl); try simp only [Act.put, List.setIfInBounds_toArray, List.set_cons_zero, List.set_cons_succ])
  (refine wpAnyH_take2 (i := 43) (d := some 103) (v := ?_) rfl rfl (by kernel_rfl) (by kernel_rfl) (by kernel_rfl) (fun _ _ _ h => h) (Or.inl ⟨by kernel_rfl, ?_⟩) (by assumption) ?_; rotate_left; focus (intro w_ hSw_; (try dsimp only at hSw_); go_simp; try with_reducible rfl); try simp only [Act.put, List.setIfInBounds_toArray, List.set_cons_zero, List.set_cons_succ])
  (refine wpAnyH_take2 (i := 44) (d := some 104) (v := ?_) rfl rfl (by kernel_rfl) (by kernel_rfl) (by kernel_rfl) (fun _ _ _ h => h) (Or.inl ⟨by kernel_rfl, ?_⟩) (by assumption) ?_; rotate_left; focus (intro w_ hSw_; (try dsimp only at hSw_); go_simp; try with_reducible rfl); try simp only [Act.put, List.setIfInBounds_toArray, List.set_cons_zero, List.set_cons_succ])
  (refine wpAnyH_take2 (i := 45) (d := some 105) (v := ?_) rfl rfl (by kernel_rfl) (by kernel_rfl) (by kernel_rfl) (fun _ _ _ h => h) (Or.inl ⟨by kernel_rfl, ?_⟩) (by assumption) ?_; rotate_left; focus (intro w_ hSw_; (try dsimp only at hSw_); go_simp; try with_reducible rfl); try simp only [Act.put, List.setIfInBounds_toArray, List.set_cons_zero, List.set_cons_succ])
  (refine wpAnyH_take2 (i := 46) (d := some 106) (v := ?_) rfl rfl (by kernel_rfl) (by kernel_rfl) (by kernel_rfl) (fun _ _ _ h => h) (Or.inl ⟨by kernel_rfl, ?_⟩) (by assumption) ?_; rotate_left; focus (intro w_ hSw_; (try dsimp only at hSw_); go_simp; try with_reducible rfl); try simp only [Act.put, List.setIfInBounds_toArray, List.set_cons_zero, List.set_cons_succ])
  (refine wpAnyH_take2 (i := 47) (d := some 107) (v := ?_) rfl rfl (by kernel_rfl) (by kernel_rfl) (by kernel_rfl) (fun _ _ _ h => h) (Or.inl ⟨by rfl, ?_⟩) (by assumption) ?_; rotate_left; focus (intro w_ hSw_; (try dsimp only at hSw_); go_simp; try with_reducible rfl); try simp only [Act.put, List.setIfInBounds_toArray, List.set_cons_zero, List.set_cons_succ])
  (refine wpAnyH_take2 (i := 48) (d := some 4) (v := ?_) rfl rfl (by kernel_rfl) (by kernel_rfl) (by kernel_rfl) (fun _ _ _ h => h) (Or.inl ⟨by rfl, ?_⟩) (by assumption) ?_; rotate_left; focus (intro w_ hSw_; (try dsimp only at hSw_); go_simp; try with_reducible rfl); try simp only [Act.put, List.setIfInBounds_toArray, List.set_cons_zero, List.set_cons_succ])
  refine wpAnyH_done (by kernel_rfl) ?_ _
  go_wp2
  go_ret
  exact ⟨congrArg _ (put4 _ _ (by simp only [Act.put, Array.size_setIfInBounds]; show 4 < 108; decide)), HB9.out⟩
set_option maxHeartbeats 8000000 in
set_option maxRecDepth 100000 in
theorem OrderTells_c (o : Ord) (s : ByteArray) (h0 : -9223372036854775808 ≤ o.n) (h1 : o.n ≤ 9223372036854775807) (g5 : 1 ≤ o.k) (g6 : ¬ o.k ≤ 9) (w : World) (ht : Tab w) :
    Calls Tryd.prog 3 #[ordV o, .string s] w fun e w' => e = .returned (.bool true) ∧ Below w.heap.size w w' := by
  have Hg5 := Lib.hid g5
  have Hg6 := Lib.hid g6
  clear g5 g6
  have hu := Tryd.underlying23
  have HT := Lib.hid ht
  have H0 := Lib.hid h0
  have H1 := Lib.hid h1
  clear ht h0 h1
  obtain ⟨p, at_, er, hr⟩ : ∃ p at_ er, readR s = (p, at_, er) := ⟨_, _, _, rfl⟩
  have HR := Lib.hid hr
  clear hr
  go_enter Tryd.func3, Tryd.ntmps3
  obtain ⟨W, hW⟩ : ∃ W, W = w.alloc (.cells #[Value.int IntKind.i64 o.k, Value.string o.c, Value.string o.e, Value.string o.u, Value.int IntKind.i64 o.n] 23) := ⟨_, rfl⟩
  have HB0 : Hid (Below w.heap.size w W) := by show Below _ _ _; rw [hW]; exact boxO w o
  have HO0 : Hid (W.heap[w.heap.size]? = some (Obj.cells #[Value.int IntKind.i64 o.k, Value.string o.c, Value.string o.e, Value.string o.u, Value.int IntKind.i64 o.n] 23 (0, 0))) := by show _ = _; rw [hW]; exact blk_new w _
  have hW2 := hW.symm
  clear hW
  go_upto_region 3 with (go_at_call 6; refine (awake_any _ (tab_below HT.out HB0.out)).mono ?_; rintro e w1 ⟨rfl, hb⟩; have HB1 := Lib.hid (HB0.out.trans (hb.mono HB0.out.size)); have HO1 := Lib.hid ((hb.block w.heap.size (blk_lt HO0.out)).trans HO0.out); clear hb)
  clear hW2
  have y0 : w1.cell? ⟨w.heap.size, 0, none⟩ = some (.int .i64 o.k) := blk_cell HO1.out 0
  have y1 : w1.cell? ⟨w.heap.size, 1, none⟩ = some (.string o.c) := blk_cell HO1.out 1
  have y2 : w1.cell? ⟨w.heap.size, 2, none⟩ = some (.string o.e) := blk_cell HO1.out 2
  have y3 : w1.cell? ⟨w.heap.size, 3, none⟩ = some (.string o.u) := blk_cell HO1.out 3
  have y4 : w1.cell? ⟨w.heap.size, 4, none⟩ = some (.int .i64 o.n) := blk_cell HO1.out 4
  by_cases g4 : (1024 : Int) < (s.size : Int)
  · go_wp2
    go_ret
    exact ⟨rfl, HB1.out⟩
  by_cases g1 : (100 : Int) < (o.c.size : Int)
  · go_wp2
    go_ret
    exact ⟨rfl, HB1.out⟩
  by_cases g2 : (100 : Int) < (o.e.size : Int)
  · go_wp2
    go_ret
    exact ⟨rfl, HB1.out⟩
  by_cases g3 : (100 : Int) < (o.u.size : Int)
  · go_wp2
    go_ret
    exact ⟨rfl, HB1.out⟩
  have hrd := Lib.hid (fun W' => read_of HR.out (by omega) W')
  obtain ⟨t, y, hw⟩ : ∃ t y, writeR o = (t, y) := ⟨_, _, rfl⟩
  have hyb : (y == 0) = mayO o := by
    unfold writeR at hw
    cases hM : mayO o <;> rw [hM] at hw
    · have : (2 : Int) = y := congrArg (·.2) hw
      rw [← this]; rfl
    · have : (0 : Int) = y := congrArg (·.2) hw
      rw [← this]; rfl
  have W1 := Lib.hid (fun W' (hW : Tab W') => write_of hw (by omega) (by omega) (by omega) H0.out H1.out W' hW)
  have W2 : Hid (∀ W', Calls Tryd.prog 8 #[.agg #[Value.int IntKind.i64 o.k, Value.string o.c, Value.string o.e, Value.string o.u, Value.int IntKind.i64 o.n]] W' fun e w' => e = .returned (.tuple #[.string t, .int .i64 y]) ∧ Below W'.heap.size W' w') := fun W' => by have h := R15Write_any o (by omega) (by omega) (by omega) W'; rw [hw] at h; exact h
  have R2 : Hid (∀ W', Calls Tryd.prog 10 #[.string s] W' fun e w' => e = .returned (.tuple #[.agg #[Value.int IntKind.i64 p.k, Value.string p.c, Value.string p.e, Value.string p.u, Value.int IntKind.i64 p.n], .int .i64 at_, .int .i64 er]) ∧ Below W'.heap.size W' w') := fun W' => by have h := R15Read_any s (by omega) W'; rw [HR.out] at h; exact h
  have M1 := Lib.hid (fun W' => may_of (o := o) rfl (by omega) (by omega) (by omega) W')
  clear hw
  go_upto_region 6 with (go_at_call 7; refine (W1.out _ (tab_below HT.out HB1.out)).mono ?_; rintro e w2 ⟨rfl, hb⟩; have HB2 := Lib.hid (HB1.out.trans (hb.mono HB1.out.size)); have HO2 := Lib.hid ((hb.block w.heap.size (blk_lt HO1.out)).trans HO1.out); clear hb)
  clear y0 y1 y2 y3 y4
  obtain ⟨y0, y1, y2, y3, y4, _, _, _, _, _⟩ := resF HO2.out
  go_upto_region 7 with (go_at_call 8; refine (W2.out _).mono ?_; rintro e w3 ⟨rfl, hb⟩; have HB3 := Lib.hid (HB2.out.trans (hb.mono HB2.out.size)); have HO3 := Lib.hid ((hb.block w.heap.size (blk_lt HO2.out)).trans HO2.out); clear hb)
  clear y0 y1 y2 y3 y4
  go_upto_region 8 with (go_at_call 9; refine (hrd.out _).mono ?_; rintro e w4 ⟨rfl, hb⟩; have HB4 := Lib.hid (HB3.out.trans (hb.mono HB3.out.size)); have HO4 := Lib.hid ((hb.block w.heap.size (blk_lt HO3.out)).trans HO3.out); clear hb)
  obtain ⟨w5, hw5⟩ : ∃ w5, w5 = w4.alloc (.cells #[Value.int IntKind.i64 p.k, Value.string p.c, Value.string p.e, Value.string p.u, Value.int IntKind.i64 p.n] 23) := ⟨_, rfl⟩
  rw [← hw5]
  have HB5 : Hid (Below w.heap.size w w5) := by show Below _ _ _; rw [hw5]; exact below_alloc HB4.out _
  have HO5 : Hid (w5.heap[w.heap.size]? = some (Obj.cells #[Value.int IntKind.i64 o.k, Value.string o.c, Value.string o.e, Value.string o.u, Value.int IntKind.i64 o.n] 23 (0, 0))) := by show _ = _; rw [hw5]; exact blk_alloc HO4.out _
  have HP5 : Hid (w5.heap[w4.heap.size]? = some (Obj.cells #[Value.int IntKind.i64 p.k, Value.string p.c, Value.string p.e, Value.string p.u, Value.int IntKind.i64 p.n] 23 (0, 0))) := by show _ = _; rw [hw5]; exact blk_new w4 _
  clear hw5
  generalize w4.heap.size = bp at *
  go_upto_region 9 with (go_at_call 10; refine (R2.out _).mono ?_; rintro e w6 ⟨rfl, hb⟩; have HB6 := Lib.hid (HB5.out.trans (hb.mono HB5.out.size)); have HO6 := Lib.hid ((hb.block w.heap.size (blk_lt HO5.out)).trans HO5.out); have HP6 := Lib.hid ((hb.block bp (blk_lt HP5.out)).trans HP5.out); clear hb)
  obtain ⟨w7, hw7⟩ : ∃ w7, w7 = w6.alloc (.cells #[Value.int IntKind.i64 p.k, Value.string p.c, Value.string p.e, Value.string p.u, Value.int IntKind.i64 p.n] 29) := ⟨_, rfl⟩
  rw [← hw7]
  have HB7 : Hid (Below w.heap.size w w7) := by show Below _ _ _; rw [hw7]; exact below_alloc HB6.out _
  have HO7 : Hid (w7.heap[w.heap.size]? = some (Obj.cells #[Value.int IntKind.i64 o.k, Value.string o.c, Value.string o.e, Value.string o.u, Value.int IntKind.i64 o.n] 23 (0, 0))) := by show _ = _; rw [hw7]; exact blk_alloc HO6.out _
  have HP7 : Hid (w7.heap[bp]? = some (Obj.cells #[Value.int IntKind.i64 p.k, Value.string p.c, Value.string p.e, Value.string p.u, Value.int IntKind.i64 p.n] 23 (0, 0))) := by show _ = _; rw [hw7]; exact blk_alloc HP6.out _
  have HQ7 : Hid (w7.heap[w6.heap.size]? = some (Obj.cells #[Value.int IntKind.i64 p.k, Value.string p.c, Value.string p.e, Value.string p.u, Value.int IntKind.i64 p.n] 29 (0, 0))) := by show _ = _; rw [hw7]; exact blk_new w6 _
  clear hw7
  generalize w6.heap.size = bq at *
  obtain ⟨x0, x1, x2, x3, x4, _, _, _, _, _⟩ := resF HO7.out
  obtain ⟨y0, y1, y2, y3, y4, _, _, _, _, _⟩ := resF HP7.out
  obtain ⟨z0, z1, z2, z3, z4, _, _, _, _, _⟩ := resFr HQ7.out
  have heq : ∀ W' : World, (binOp .eql 29 (.agg #[Value.int IntKind.i64 p.k, Value.string p.c, Value.string p.e, Value.string p.u, Value.int IntKind.i64 p.n]) (.agg #[Value.int IntKind.i64 p.k, Value.string p.c, Value.string p.e, Value.string p.u, Value.int IntKind.i64 p.n])).run Tryd.prog W' = .ok (.bool true) W' := fun W' => by have h := eqOrdR p p W'; rw [same_self] at h; exact h
  have hmb : ∀ b : Bool, mayO o = b → (y == 0) = b := fun b h => hyb.trans h
  have HYB := Lib.hid hmb
  clear hyb hmb
  generalize hmo : mayO o = mo at *
  have hy0 : (y == 0) = mo := HYB.out mo rfl
  clear hmo
  have g5 := Hg5.out
  have g6 := Hg6.out
  clear Hg5 Hg6
  have k5 : decide (1 ≤ o.k) = true := decide_eq_true g5
  have k6 : decide (o.k ≤ 9) = false := decide_eq_false (by omega)
  have hc : chgO o.k = false := by unfold chgO; rw [k6]; simp
  have HB7d : Hid (Below w.heap.size w w7.drew) := HB7.out.drew
  clear HB7
  have HB7 := HB7d
  go_upto_region 9 with fail
  refine wp_region_held_drew (S := (fun w' => w'.cell? ⟨w.heap.size, 0, none⟩ = some (.int .i64 o.k) ∧ w'.cell? ⟨w.heap.size, 1, none⟩ = some (.string o.c) ∧ w'.cell? ⟨w.heap.size, 2, none⟩ = some (.string o.e) ∧ w'.cell? ⟨w.heap.size, 3, none⟩ = some (.string o.u) ∧ w'.cell? ⟨w.heap.size, 4, none⟩ = some (.int .i64 o.n) ∧ w'.cell? ⟨bp, 0, none⟩ = some (.int .i64 p.k) ∧ w'.cell? ⟨bp, 1, none⟩ = some (.string p.c) ∧ w'.cell? ⟨bp, 2, none⟩ = some (.string p.e) ∧ w'.cell? ⟨bp, 3, none⟩ = some (.string p.u) ∧ w'.cell? ⟨bp, 4, none⟩ = some (.int .i64 p.n) ∧ w'.cell? ⟨bq, 0, none⟩ = some (.int .i64 p.k) ∧ w'.cell? ⟨bq, 1, none⟩ = some (.string p.c) ∧ w'.cell? ⟨bq, 2, none⟩ = some (.string p.e) ∧ w'.cell? ⟨bq, 3, none⟩ = some (.string p.u) ∧ w'.cell? ⟨bq, 4, none⟩ = some (.int .i64 p.n))) (by kernel_rfl) (by (try dsimp only); exact ⟨x0, x1, x2, x3, x4, y0, y1, y2, y3, y4, z0, z1, z2, z3, z4⟩) (fun hHeld => ?_)
  (refine wpAnyH_take2 (i := 0) (d := some 60) (v := ?_) rfl rfl (by kernel_rfl) (by kernel_rfl) (by kernel_rfl) (fun _ _ _ h => h) (Or.inl ⟨by rfl, ?_⟩) (by assumption) ?_; rotate_left; focus (intro w_ hSw_; (try dsimp only at hSw_); go_simp; try with_reducible rfl); try simp only [Act.put, List.setIfInBounds_toArray, List.set_cons_zero, List.set_cons_succ])
  (refine wpAnyH_take2 (i := 1) (d := some 61) (v := ?_) rfl rfl (by kernel_rfl) (by kernel_rfl) (by kernel_rfl) (fun _ _ _ h => h) (Or.inl ⟨by rfl, ?_⟩) (by assumption) ?_; rotate_left; focus (intro w_ hSw_; (try dsimp only at hSw_); go_simp; try with_reducible rfl); try simp only [Act.put, List.setIfInBounds_toArray, List.set_cons_zero, List.set_cons_succ])
  (refine wpAnyH_take2 (i := 2) (d := some 62) (v := ?_) rfl rfl (by kernel_rfl) (by kernel_rfl) (by kernel_rfl) (fun _ _ _ h => h) (Or.inl ⟨by rfl, ?_⟩) (by assumption) ?_; rotate_left; focus (intro w_ hSw_; (try dsimp only at hSw_); go_simp; try with_reducible rfl); try simp only [Act.put, List.setIfInBounds_toArray, List.set_cons_zero, List.set_cons_succ])
  (refine wpAnyH_take2 (i := 3) (d := some 63) (v := ?_) rfl rfl (by kernel_rfl) (by kernel_rfl) (by kernel_rfl) (fun _ _ _ h => h) (Or.inl ⟨by rfl, ?_⟩) (by assumption) ?_; rotate_left; focus (intro w_ hSw_; (try dsimp only at hSw_); go_simp; try with_reducible rfl); try simp only [Act.put, List.setIfInBounds_toArray, List.set_cons_zero, List.set_cons_succ])
  (refine wpAnyH_take2 (i := 4) (d := some 64) (v := ?_) rfl rfl (by kernel_rfl) (by kernel_rfl) (by kernel_rfl) (fun _ _ _ h => h) (Or.inl ⟨by kernel_rfl, ?_⟩) (by assumption) ?_; rotate_left; focus (intro w_ hSw_; (try dsimp only at hSw_); go_simp; try with_reducible rfl); try simp only [Act.put, List.setIfInBounds_toArray, List.set_cons_zero, List.set_cons_succ])
  (refine wpAnyH_take2 (i := 5) (d := some 65) (v := ?_) rfl rfl (by kernel_rfl) (by kernel_rfl) (by kernel_rfl) (fun _ _ _ h => h) (Or.inl ⟨by kernel_rfl, ?_⟩) (by assumption) ?_; rotate_left; focus (intro w_ hSw_; (try dsimp only at hSw_); go_simp; try with_reducible rfl); try simp only [Act.put, List.setIfInBounds_toArray, List.set_cons_zero, List.set_cons_succ])
  (refine wpAnyH_take2 (i := 6) (d := some 66) (v := ?_) rfl rfl (by kernel_rfl) (by kernel_rfl) (by kernel_rfl) (fun _ _ _ h => h) (Or.inl ⟨by kernel_rfl, ?_⟩) (by assumption) ?_; rotate_left; focus (intro w_ hSw_; (try dsimp only at hSw_); go_simp; try with_reducible rfl); try simp only [Act.put, List.setIfInBounds_toArray, List.set_cons_zero, List.set_cons_succ])
  (refine wpAnyH_take2 (i := 7) (d := some 67) (v := ?_) rfl rfl (by kernel_rfl) (by kernel_rfl) (by kernel_rfl) (fun _ _ _ h => h) (Or.inl ⟨by rfl, ?_⟩) (by assumption) ?_; rotate_left; focus (intro w_ hSw_; (try dsimp only at hSw_); go_simp; try with_reducible rfl); try simp only [Act.put, List.setIfInBounds_toArray, List.set_cons_zero, List.set_cons_succ])
  (refine wpAnyH_take2 (i := 8) (d := some 68) (v := ?_) rfl rfl (by kernel_rfl) (by kernel_rfl) (by kernel_rfl) (fun _ _ _ h => h) (Or.inl ⟨by rfl, ?_⟩) (by assumption) ?_; rotate_left; focus (intro w_ hSw_; (try dsimp only at hSw_); go_simp; try with_reducible rfl); try simp only [Act.put, List.setIfInBounds_toArray, List.set_cons_zero, List.set_cons_succ])
  (refine wpAnyH_take2 (i := 9) (d := some 69) (v := ?_) rfl rfl (by kernel_rfl) (by kernel_rfl) (by kernel_rfl) (fun _ _ _ h => h) (Or.inl ⟨by kernel_rfl, ?_⟩) (by assumption) ?_; rotate_left; focus (intro w_ hSw_; (try dsimp only at hSw_); go_simp; try with_reducible rfl); try simp only [Act.put, List.setIfInBounds_toArray, List.set_cons_zero, List.set_cons_succ])
  (refine wpAnyH_take2 (i := 10) (d := some 70) (v := ?_) rfl rfl (by kernel_rfl) (by kernel_rfl) (by kernel_rfl) (fun _ _ _ h => h) (Or.inl ⟨by kernel_rfl, ?_⟩) (by assumption) ?_; rotate_left; focus (intro w_ hSw_; (try dsimp only at hSw_); go_simp; try with_reducible rfl); try simp only [Act.put, List.setIfInBounds_toArray, List.set_cons_zero, List.set_cons_succ])
  (refine wpAnyH_take2 (i := 11) (d := some 71) (v := ?_) rfl rfl (by kernel_rfl) (by kernel_rfl) (by kernel_rfl) (fun _ _ _ h => h) (Or.inl ⟨by kernel_rfl, ?_⟩) (by assumption) ?_; rotate_left; focus (intro w_ hSw_; (try dsimp only at hSw_); go_simp; try with_reducible rfl); try simp only [Act.put, List.setIfInBounds_toArray, List.set_cons_zero, List.set_cons_succ])
  (refine wpAnyH_take2 (i := 12) (d := some 72) (v := ?_) rfl rfl (by kernel_rfl) (by kernel_rfl) (by kernel_rfl) (fun _ _ _ h => h) (Or.inl ⟨by rfl, ?_⟩) (by assumption) ?_; rotate_left; focus (intro w_ hSw_; (try dsimp only at hSw_); go_simp; try with_reducible rfl); try simp only [Act.put, List.setIfInBounds_toArray, List.set_cons_zero, List.set_cons_succ])
  (refine wpAnyH_take2 (i := 13) (d := some 73) (v := ?_) rfl rfl (by kernel_rfl) (by kernel_rfl) (by kernel_rfl) (fun _ _ _ h => h) (Or.inl ⟨by rfl, ?_⟩) (by assumption) ?_; rotate_left; focus (intro w_ hSw_; (try dsimp only at hSw_); go_simp; try with_reducible rfl); try simp only [Act.put, List.setIfInBounds_toArray, List.set_cons_zero, List.set_cons_succ])
  (refine wpAnyH_take2 (i := 14) (d := some 74) (v := ?_) rfl rfl (by kernel_rfl) (by kernel_rfl) (by kernel_rfl) (fun _ _ _ h => h) (Or.inl ⟨by kernel_rfl, ?_⟩) (by assumption) ?_; rotate_left; focus (intro w_ hSw_; (try dsimp only at hSw_); go_simp; try with_reducible rfl); try simp only [Act.put, List.setIfInBounds_toArray, List.set_cons_zero, List.set_cons_succ])
  (refine wpAnyH_take2 (i := 15) (d := some 75) (v := ?_) rfl rfl (by kernel_rfl) (by kernel_rfl) (by kernel_rfl) (fun _ _ _ h => h) (Or.inl ⟨by kernel_rfl, ?_⟩) (by assumption) ?_; rotate_left; focus (intro w_ hSw_; (try dsimp only at hSw_); go_simp; try with_reducible rfl); try simp only [Act.put, List.setIfInBounds_toArray, List.set_cons_zero, List.set_cons_succ])
  (refine wpAnyH_take2 (i := 16) (d := some 76) (v := ?_) rfl rfl (by kernel_rfl) (by kernel_rfl) (by kernel_rfl) (fun _ _ _ h => h) (Or.inl ⟨by kernel_rfl, ?_⟩) (by assumption) ?_; rotate_left; focus (intro w_ hSw_; (try dsimp only at hSw_); go_simp; try with_reducible rfl); try simp only [Act.put, List.setIfInBounds_toArray, List.set_cons_zero, List.set_cons_succ])
  (refine wpAnyH_take2 (i := 17) (d := some 77) (v := ?_) rfl rfl (by kernel_rfl) (by kernel_rfl) (by kernel_rfl) (fun _ _ _ h => h) (Or.inl ⟨by rfl, ?_⟩) (by assumption) ?_; rotate_left; focus (intro w_ hSw_; (try dsimp only at hSw_); go_simp; try with_reducible rfl); try simp only [Act.put, List.setIfInBounds_toArray, List.set_cons_zero, List.set_cons_succ])
  (refine wpAnyH_take2 (i := 18) (d := some 78) (v := ?_) rfl rfl (by kernel_rfl) (by kernel_rfl) (by kernel_rfl) (fun _ _ _ h => h) (Or.inl ⟨by rfl, ?_⟩) (by assumption) ?_; rotate_left; focus (intro w_ hSw_; (try dsimp only at hSw_); go_simp; try with_reducible rfl); try simp only [Act.put, List.setIfInBounds_toArray, List.set_cons_zero, List.set_cons_succ])
  (refine wpAnyH_take2 (i := 19) (d := some 79) (v := ?_) rfl rfl (by kernel_rfl) (by kernel_rfl) (by kernel_rfl) (fun _ _ _ h => h) (Or.inl ⟨by kernel_rfl, ?_⟩) (by assumption) ?_; rotate_left; focus (intro w_ hSw_; (try dsimp only at hSw_); go_simp; try with_reducible rfl); try simp only [Act.put, List.setIfInBounds_toArray, List.set_cons_zero, List.set_cons_succ])
  (refine wpAnyH_take2 (i := 20) (d := some 80) (v := ?_) rfl rfl (by kernel_rfl) (by kernel_rfl) (by kernel_rfl) (fun _ _ _ h => h) (Or.inl ⟨by kernel_rfl, ?_⟩) (by assumption) ?_; rotate_left; focus (intro w_ hSw_; (try dsimp only at hSw_); go_simp; try with_reducible rfl); try simp only [Act.put, List.setIfInBounds_toArray, List.set_cons_zero, List.set_cons_succ])
  (refine wpAnyH_take2 (i := 21) (d := some 81) (v := ?_) rfl rfl (by kernel_rfl) (by kernel_rfl) (by kernel_rfl) (fun _ _ _ h => h) (Or.inl ⟨by kernel_rfl, ?_⟩) (by assumption) ?_; rotate_left; focus (intro w_ hSw_; (try dsimp only at hSw_); go_simp; try with_reducible rfl); try simp only [Act.put, List.setIfInBounds_toArray, List.set_cons_zero, List.set_cons_succ])
  (refine wpAnyH_take2 (i := 22) (d := some 82) (v := ?_) rfl rfl (by kernel_rfl) (by kernel_rfl) (by kernel_rfl) (fun _ _ _ h => h) (Or.inl ⟨by rfl, ?_⟩) (by assumption) ?_; rotate_left; focus (intro w_ hSw_; (try dsimp only at hSw_); go_simp; try with_reducible rfl); try simp only [Act.put, List.setIfInBounds_toArray, List.set_cons_zero, List.set_cons_succ])
  (refine wpAnyH_take2 (i := 23) (d := some 83) (v := ?_) rfl rfl (by kernel_rfl) (by kernel_rfl) (by kernel_rfl) (fun _ _ _ h => h) (Or.inl ⟨by rfl, ?_⟩) (by assumption) ?_; rotate_left; focus (intro w_ hSw_; (try dsimp only at hSw_); go_simp; try with_reducible rfl); try simp only [Act.put, List.setIfInBounds_toArray, List.set_cons_zero, List.set_cons_succ])
  (refine wpAnyH_take2 (i := 24) (d := some 84) (v := ?_) rfl rfl (by kernel_rfl) (by kernel_rfl) (by kernel_rfl) (fun _ _ _ h => h) (Or.inl ⟨by kernel_rfl, ?_⟩) (by assumption) ?_; rotate_left; focus (intro w_ hSw_; (try dsimp only at hSw_); go_simp; try with_reducible rfl); try simp only [Act.put, List.setIfInBounds_toArray, List.set_cons_zero, List.set_cons_succ])
  (refine wpAnyH_take2 (i := 26) (d := some 86) (v := ?_) rfl rfl (by kernel_rfl) (by kernel_rfl) (by kernel_rfl) (fun _ _ _ h => h) (Or.inl ⟨by kernel_rfl, ?_⟩) (by assumption) ?_; rotate_left; focus (intro w_ hSw_; (try dsimp only at hSw_); go_simp; try with_reducible rfl); try simp only [Act.put, List.setIfInBounds_toArray, List.set_cons_zero, List.set_cons_succ])
  (refine wpAnyH_take2 (i := 27) (d := some 87) (v := ?_) rfl rfl (by kernel_rfl) (by kernel_rfl) (by kernel_rfl) (fun _ _ _ h => h) (Or.inl ⟨by kernel_rfl, ?_⟩) (by assumption) ?_; rotate_left; focus (intro w_ hSw_; (try dsimp only at hSw_); go_simp; try with_reducible rfl); try simp only [Act.put, List.setIfInBounds_toArray, List.set_cons_zero, List.set_cons_succ])
  (refine wpAnyH_ready (rs := [25]) (by kernel_rfl) (by simp) ?_; refine AllReadyH.cons rfl (fun K hK => ?_) AllReadyH.nil; go_simp; go_at_call 11; refine (M1.out _).mono ?_; rintro e w8 ⟨rfl, hb⟩; have HB8 := Lib.hid (HB7.out.trans (hb.mono HB7.out.size)); have HO8 := Lib.hid ((hb.block w.heap.size (blk_lt HO7.out)).trans HO7.out); have HP8 := Lib.hid ((hb.block bp (blk_lt HP7.out)).trans HP7.out); have HQ8 := Lib.hid ((hb.block bq (blk_lt HQ7.out)).trans HQ7.out); clear hb; refine hK.out _ _ (by (try dsimp only); exact ⟨blk_cell HO8.out 0, blk_cell HO8.out 1, blk_cell HO8.out 2, blk_cell HO8.out 3, blk_cell HO8.out 4, blk_cell HP8.out 0, blk_cell HP8.out 1, blk_cell HP8.out 2, blk_cell HP8.out 3, blk_cell HP8.out 4, blk_cell HQ8.out 0, blk_cell HQ8.out 1, blk_cell HQ8.out 2, blk_cell HQ8.out 3, blk_cell HQ8.out 4⟩) (fun hHeld2 => ?_); clear hK K; clear hHeld; have hHeld := hHeld2; clear hHeld2; try simp only [Act.put, List.setIfInBounds_toArray, List.set_cons_zero, List.set_cons_succ])
  (refine wpAnyH_take2 (i := 28) (d := some 88) (v := ?_) rfl rfl (by kernel_rfl) (by kernel_rfl) (by kernel_rfl) (fun _ _ _ h => h) (Or.inl ⟨by kernel_rfl, ?_⟩) (by assumption) ?_; rotate_left; focus (intro w_ hSw_; (try dsimp only at hSw_); go_simp; try with_reducible rfl); try simp only [Act.put, List.setIfInBounds_toArray, List.set_cons_zero, List.set_cons_succ])
  (refine wpAnyH_take2 (i := 29) (d := some 89) (v := ?_) rfl rfl (by kernel_rfl) (by kernel_rfl) (by kernel_rfl) (fun _ _ _ h => h) (Or.inl ⟨by rfl, ?_⟩) (by assumption) ?_; rotate_left; focus (intro w_ hSw_; (try dsimp only at hSw_); go_simp; try with_reducible rfl); try simp only [Act.put, List.setIfInBounds_toArray, List.set_cons_zero, List.set_cons_succ])
  (refine wpAnyH_take2 (i := 30) (d := some 90) (v := ?_) rfl rfl (by kernel_rfl) (by kernel_rfl) (by kernel_rfl) (fun _ _ _ h => h) (Or.inl ⟨by rfl, ?_⟩) (by assumption) ?_; rotate_left; focus (intro w_ hSw_; (try dsimp only at hSw_); go_simp; try with_reducible rfl); try simp only [Act.put, List.setIfInBounds_toArray, List.set_cons_zero, List.set_cons_succ])
  (refine wpAnyH_take2 (i := 31) (d := some 91) (v := ?_) rfl rfl (by kernel_rfl) (by kernel_rfl) (by kernel_rfl) (fun _ _ _ h => h) (Or.inl ⟨by kernel_rfl, ?_⟩) (by assumption) ?_; rotate_left; focus (intro w_ hSw_; (try dsimp only at hSw_); go_simp; try with_reducible rfl); try simp only [Act.put, List.setIfInBounds_toArray, List.set_cons_zero, List.set_cons_succ])
  (refine wpAnyH_take2 (i := 33) (d := some 93) (v := ?_) rfl rfl (by kernel_rfl) (by kernel_rfl) (by kernel_rfl) (fun _ _ _ h => h) (Or.inl ⟨by kernel_rfl, ?_⟩) (by assumption) ?_; rotate_left; focus (intro w_ hSw_; (try dsimp only at hSw_); go_simp; try with_reducible rfl); try simp only [Act.put, List.setIfInBounds_toArray, List.set_cons_zero, List.set_cons_succ])
  (refine wpAnyH_take2 (i := 34) (d := some 94) (v := ?_) rfl rfl (by kernel_rfl) (by kernel_rfl) (by kernel_rfl) (fun _ _ _ h => h) (Or.inl ⟨by kernel_rfl, ?_⟩) (by assumption) ?_; rotate_left; focus (intro w_ hSw_; (try dsimp only at hSw_); go_simp; try with_reducible rfl); try simp only [Act.put, List.setIfInBounds_toArray, List.set_cons_zero, List.set_cons_succ])
  (refine wpAnyH_take2 (i := 35) (d := some 95) (v := ?_) rfl rfl (by kernel_rfl) (by kernel_rfl) (by kernel_rfl) (fun _ _ _ h => h) (Or.inl ⟨by kernel_rfl, ?_⟩) (by assumption) ?_; rotate_left; focus (intro w_ hSw_; (try dsimp only at hSw_); go_simp; try with_reducible rfl); try simp only [Act.put, List.setIfInBounds_toArray, List.set_cons_zero, List.set_cons_succ])
  (refine wpAnyH_ready (rs := [32]) (by kernel_rfl) (by simp) ?_; refine AllReadyH.cons rfl (fun K hK => ?_) AllReadyH.nil; go_simp; go_at_call 12; refine (chg_gen _ _ _ _ _ _).mono ?_; rintro e w9 ⟨rfl, hb⟩; have HB9 := Lib.hid (HB8.out.trans (hb.mono HB8.out.size)); have HO9 := Lib.hid ((hb.block w.heap.size (blk_lt HO8.out)).trans HO8.out); have HP9 := Lib.hid ((hb.block bp (blk_lt HP8.out)).trans HP8.out); have HQ9 := Lib.hid ((hb.block bq (blk_lt HQ8.out)).trans HQ8.out); clear hb; refine hK.out _ _ (by (try dsimp only); exact ⟨blk_cell HO9.out 0, blk_cell HO9.out 1, blk_cell HO9.out 2, blk_cell HO9.out 3, blk_cell HO9.out 4, blk_cell HP9.out 0, blk_cell HP9.out 1, blk_cell HP9.out 2, blk_cell HP9.out 3, blk_cell HP9.out 4, blk_cell HQ9.out 0, blk_cell HQ9.out 1, blk_cell HQ9.out 2, blk_cell HQ9.out 3, blk_cell HQ9.out 4⟩) (fun hHeld2 => ?_); clear hK K; clear hHeld; have hHeld := hHeld2; clear hHeld2; try simp only [Act.put, List.setIfInBounds_toArray, List.set_cons_zero, List.set_cons_succ])
  (refine wpAnyH_take2 (i := 36) (d := some 96) (v := ?_) rfl rfl (by kernel_rfl) (by kernel_rfl) (by kernel_rfl) (fun _ _ _ h => h) (Or.inl ⟨by kernel_rfl, ?_⟩) (by assumption) ?_; rotate_left; focus (intro w_ hSw_; (try dsimp only at hSw_); go_simp; try with_reducible rfl); try simp only [Act.put, List.setIfInBounds_toArray, List.set_cons_zero, List.set_cons_succ])
  (refine wpAnyH_take2 (i := 37) (d := some 97) (v := ?_) rfl rfl (by kernel_rfl) (by kernel_rfl) (by kernel_rfl) (fun _ _ _ h => h) (Or.inl ⟨by kernel_rfl, ?_⟩) (by assumption) ?_; rotate_left; focus (intro w_ hSw_; (try dsimp only at hSw_); go_simp; try with_reducible rfl); try simp only [Act.put, List.setIfInBounds_toArray, List.set_cons_zero, List.set_cons_succ])
  (refine wpAnyH_take2 (i := 38) (d := some 98) (v := ?_) rfl rfl (by kernel_rfl) (by kernel_rfl) (by kernel_rfl) (fun _ _ _ h => h) (Or.inl ⟨by kernel_rfl, ?_⟩) (by assumption) ?_; rotate_left; focus (intro w_ hSw_; (try dsimp only at hSw_); go_simp; try with_reducible rfl); try simp only [Act.put, List.setIfInBounds_toArray, List.set_cons_zero, List.set_cons_succ])
  (refine wpAnyH_take2 (i := 39) (d := some 99) (v := ?_) rfl rfl (by kernel_rfl) (by kernel_rfl) (by kernel_rfl) (fun _ _ _ h => h) (Or.inl ⟨by kernel_rfl, ?_⟩) (by assumption) ?_; rotate_left; focus (intro w_ hSw_; (try dsimp only at hSw_); go_simp; try with_reducible rfl); try simp only [Act.put, List.setIfInBounds_toArray, List.set_cons_zero, List.set_cons_succ])
  (refine wpAnyH_take2 (i := 40) (d := some 100) (v := ?_) rfl rfl (by kernel_rfl) (by kernel_rfl) (by kernel_rfl) (fun _ _ _ h => h) (Or.inl ⟨by kernel_rfl, ?_⟩) (by assumption) ?_; rotate_left; focus (intro w_ hSw_; (try dsimp only at hSw_); go_simp; try with_reducible rfl); try simp only [Act.put, List.setIfInBounds_toArray, List.set_cons_zero, List.set_cons_succ])
  (refine wpAnyH_take2 (i := 41) (d := some 101) (v := ?_) rfl rfl (by kernel_rfl) (by kernel_rfl) (by kernel_rfl) (fun _ _ _ h => h) (Or.inl ⟨by kernel_rfl, ?_⟩) (by assumption) ?_; rotate_left; focus (intro w_ hSw_; (try dsimp only at hSw_); go_simp; try with_reducible rfl); try simp only [Act.put, List.setIfInBounds_toArray, List.set_cons_zero, List.set_cons_succ])
  (refine wpAnyH_take2 (i := 42) (d := some 102) (v := undef) rfl rfl (by kernel_rfl) (by kernel_rfl) (by kernel_rfl) (fun _ _ _ h => h) (Or.inr ⟨by kernel_rfl, rfl⟩) (by assumption) ?_; try simp only [Act.put, List.setIfInBounds_toArray, List.set_cons_zero, List.set_cons_succ])
  (refine wpAnyH_take2 (i := 43) (d := some 103) (v := undef) rfl rfl (by kernel_rfl) (by kernel_rfl) (by kernel_rfl) (fun _ _ _ h => h) (Or.inr ⟨by kernel_rfl, rfl⟩) (by assumption) ?_; try simp only [Act.put, List.setIfInBounds_toArray, List.set_cons_zero, List.set_cons_succ])
  (refine wpAnyH_take2 (i := 44) (d := some 104) (v := undef) rfl rfl (by kernel_rfl) (by kernel_rfl) (by kernel_rfl) (fun _ _ _ h => h) (Or.inr ⟨by kernel_rfl, rfl⟩) (by assumption) ?_; try simp only [Act.put, List.setIfInBounds_toArray, List.set_cons_zero, List.set_cons_succ])
  (refine wpAnyH_take2 (i := 45) (d := some 105) (v := ?_) rfl rfl (by kernel_rfl) (by kernel_rfl) (by kernel_rfl) (fun _ _ _ h => h) (Or.inl ⟨by kernel_rfl, ?_⟩) (by assumption) ?_; rotate_left; focus (intro w_ hSw_; (try dsimp only at hSw_); go_simp; try with_reducible rfl); try simp only [Act.put, List.setIfInBounds_toArray, List.set_cons_zero, List.set_cons_succ])
  (refine wpAnyH_take2 (i := 46) (d := some 106) (v := ?_) rfl rfl (by kernel_rfl) (by kernel_rfl) (by kernel_rfl) (fun _ _ _ h => h) (Or.inl ⟨by kernel_rfl, ?_⟩) (by assumption) ?_; rotate_left; focus (intro w_ hSw_; (try dsimp only at hSw_); go_simp; try with_reducible rfl); try simp only [Act.put, List.setIfInBounds_toArray, List.set_cons_zero, List.set_cons_succ])
  (refine wpAnyH_take2 (i := 47) (d := some 107) (v := ?_) rfl rfl (by kernel_rfl) (by kernel_rfl) (by kernel_rfl) (fun _ _ _ h => h) (Or.inl ⟨by rfl, ?_⟩) (by assumption) ?_; rotate_left; focus (intro w_ hSw_; (try dsimp only at hSw_); go_simp; try with_reducible rfl); try simp only [Act.put, List.setIfInBounds_toArray, List.set_cons_zero, List.set_cons_succ])
  (refine wpAnyH_take2 (i := 48) (d := some 4) (v := ?_) rfl rfl (by kernel_rfl) (by kernel_rfl) (by kernel_rfl) (fun _ _ _ h => h) (Or.inl ⟨by rfl, ?_⟩) (by assumption) ?_; rotate_left; focus (intro w_ hSw_; (try dsimp only at hSw_); go_simp; try with_reducible rfl); try simp only [Act.put, List.setIfInBounds_toArray, List.set_cons_zero, List.set_cons_succ])
  refine wpAnyH_done (by kernel_rfl) ?_ _
  go_wp2
  go_ret
  exact ⟨congrArg _ (put4 _ _ (by simp only [Act.put, Array.size_setIfInBounds]; show 4 < 108; decide)), HB9.out⟩
set_option maxHeartbeats 8000000 in
set_option maxRecDepth 100000 in
theorem OrderTells_d (o : Ord) (s : ByteArray) (h0 : -9223372036854775808 ≤ o.n) (h1 : o.n ≤ 9223372036854775807) (g5 : ¬ 1 ≤ o.k) (w : World) (ht : Tab w) :
    Calls Tryd.prog 3 #[ordV o, .string s] w fun e w' => e = .returned (.bool true) ∧ Below w.heap.size w w' := by
  have Hg5 := Lib.hid g5
  clear g5
  have hu := Tryd.underlying23
  have HT := Lib.hid ht
  have H0 := Lib.hid h0
  have H1 := Lib.hid h1
  clear ht h0 h1
  obtain ⟨p, at_, er, hr⟩ : ∃ p at_ er, readR s = (p, at_, er) := ⟨_, _, _, rfl⟩
  have HR := Lib.hid hr
  clear hr
  go_enter Tryd.func3, Tryd.ntmps3
  obtain ⟨W, hW⟩ : ∃ W, W = w.alloc (.cells #[Value.int IntKind.i64 o.k, Value.string o.c, Value.string o.e, Value.string o.u, Value.int IntKind.i64 o.n] 23) := ⟨_, rfl⟩
  have HB0 : Hid (Below w.heap.size w W) := by show Below _ _ _; rw [hW]; exact boxO w o
  have HO0 : Hid (W.heap[w.heap.size]? = some (Obj.cells #[Value.int IntKind.i64 o.k, Value.string o.c, Value.string o.e, Value.string o.u, Value.int IntKind.i64 o.n] 23 (0, 0))) := by show _ = _; rw [hW]; exact blk_new w _
  have hW2 := hW.symm
  clear hW
  go_upto_region 3 with (go_at_call 6; refine (awake_any _ (tab_below HT.out HB0.out)).mono ?_; rintro e w1 ⟨rfl, hb⟩; have HB1 := Lib.hid (HB0.out.trans (hb.mono HB0.out.size)); have HO1 := Lib.hid ((hb.block w.heap.size (blk_lt HO0.out)).trans HO0.out); clear hb)
  clear hW2
  have y0 : w1.cell? ⟨w.heap.size, 0, none⟩ = some (.int .i64 o.k) := blk_cell HO1.out 0
  have y1 : w1.cell? ⟨w.heap.size, 1, none⟩ = some (.string o.c) := blk_cell HO1.out 1
  have y2 : w1.cell? ⟨w.heap.size, 2, none⟩ = some (.string o.e) := blk_cell HO1.out 2
  have y3 : w1.cell? ⟨w.heap.size, 3, none⟩ = some (.string o.u) := blk_cell HO1.out 3
  have y4 : w1.cell? ⟨w.heap.size, 4, none⟩ = some (.int .i64 o.n) := blk_cell HO1.out 4
  by_cases g4 : (1024 : Int) < (s.size : Int)
  · go_wp2
    go_ret
    exact ⟨rfl, HB1.out⟩
  by_cases g1 : (100 : Int) < (o.c.size : Int)
  · go_wp2
    go_ret
    exact ⟨rfl, HB1.out⟩
  by_cases g2 : (100 : Int) < (o.e.size : Int)
  · go_wp2
    go_ret
    exact ⟨rfl, HB1.out⟩
  by_cases g3 : (100 : Int) < (o.u.size : Int)
  · go_wp2
    go_ret
    exact ⟨rfl, HB1.out⟩
  have hrd := Lib.hid (fun W' => read_of HR.out (by omega) W')
  obtain ⟨t, y, hw⟩ : ∃ t y, writeR o = (t, y) := ⟨_, _, rfl⟩
  have hyb : (y == 0) = mayO o := by
    unfold writeR at hw
    cases hM : mayO o <;> rw [hM] at hw
    · have : (2 : Int) = y := congrArg (·.2) hw
      rw [← this]; rfl
    · have : (0 : Int) = y := congrArg (·.2) hw
      rw [← this]; rfl
  have W1 := Lib.hid (fun W' (hW : Tab W') => write_of hw (by omega) (by omega) (by omega) H0.out H1.out W' hW)
  have W2 : Hid (∀ W', Calls Tryd.prog 8 #[.agg #[Value.int IntKind.i64 o.k, Value.string o.c, Value.string o.e, Value.string o.u, Value.int IntKind.i64 o.n]] W' fun e w' => e = .returned (.tuple #[.string t, .int .i64 y]) ∧ Below W'.heap.size W' w') := fun W' => by have h := R15Write_any o (by omega) (by omega) (by omega) W'; rw [hw] at h; exact h
  have R2 : Hid (∀ W', Calls Tryd.prog 10 #[.string s] W' fun e w' => e = .returned (.tuple #[.agg #[Value.int IntKind.i64 p.k, Value.string p.c, Value.string p.e, Value.string p.u, Value.int IntKind.i64 p.n], .int .i64 at_, .int .i64 er]) ∧ Below W'.heap.size W' w') := fun W' => by have h := R15Read_any s (by omega) W'; rw [HR.out] at h; exact h
  have M1 := Lib.hid (fun W' => may_of (o := o) rfl (by omega) (by omega) (by omega) W')
  clear hw
  go_upto_region 6 with (go_at_call 7; refine (W1.out _ (tab_below HT.out HB1.out)).mono ?_; rintro e w2 ⟨rfl, hb⟩; have HB2 := Lib.hid (HB1.out.trans (hb.mono HB1.out.size)); have HO2 := Lib.hid ((hb.block w.heap.size (blk_lt HO1.out)).trans HO1.out); clear hb)
  clear y0 y1 y2 y3 y4
  obtain ⟨y0, y1, y2, y3, y4, _, _, _, _, _⟩ := resF HO2.out
  go_upto_region 7 with (go_at_call 8; refine (W2.out _).mono ?_; rintro e w3 ⟨rfl, hb⟩; have HB3 := Lib.hid (HB2.out.trans (hb.mono HB2.out.size)); have HO3 := Lib.hid ((hb.block w.heap.size (blk_lt HO2.out)).trans HO2.out); clear hb)
  clear y0 y1 y2 y3 y4
  go_upto_region 8 with (go_at_call 9; refine (hrd.out _).mono ?_; rintro e w4 ⟨rfl, hb⟩; have HB4 := Lib.hid (HB3.out.trans (hb.mono HB3.out.size)); have HO4 := Lib.hid ((hb.block w.heap.size (blk_lt HO3.out)).trans HO3.out); clear hb)
  obtain ⟨w5, hw5⟩ : ∃ w5, w5 = w4.alloc (.cells #[Value.int IntKind.i64 p.k, Value.string p.c, Value.string p.e, Value.string p.u, Value.int IntKind.i64 p.n] 23) := ⟨_, rfl⟩
  rw [← hw5]
  have HB5 : Hid (Below w.heap.size w w5) := by show Below _ _ _; rw [hw5]; exact below_alloc HB4.out _
  have HO5 : Hid (w5.heap[w.heap.size]? = some (Obj.cells #[Value.int IntKind.i64 o.k, Value.string o.c, Value.string o.e, Value.string o.u, Value.int IntKind.i64 o.n] 23 (0, 0))) := by show _ = _; rw [hw5]; exact blk_alloc HO4.out _
  have HP5 : Hid (w5.heap[w4.heap.size]? = some (Obj.cells #[Value.int IntKind.i64 p.k, Value.string p.c, Value.string p.e, Value.string p.u, Value.int IntKind.i64 p.n] 23 (0, 0))) := by show _ = _; rw [hw5]; exact blk_new w4 _
  clear hw5
  generalize w4.heap.size = bp at *
  go_upto_region 9 with (go_at_call 10; refine (R2.out _).mono ?_; rintro e w6 ⟨rfl, hb⟩; have HB6 := Lib.hid (HB5.out.trans (hb.mono HB5.out.size)); have HO6 := Lib.hid ((hb.block w.heap.size (blk_lt HO5.out)).trans HO5.out); have HP6 := Lib.hid ((hb.block bp (blk_lt HP5.out)).trans HP5.out); clear hb)
  obtain ⟨w7, hw7⟩ : ∃ w7, w7 = w6.alloc (.cells #[Value.int IntKind.i64 p.k, Value.string p.c, Value.string p.e, Value.string p.u, Value.int IntKind.i64 p.n] 29) := ⟨_, rfl⟩
  rw [← hw7]
  have HB7 : Hid (Below w.heap.size w w7) := by show Below _ _ _; rw [hw7]; exact below_alloc HB6.out _
  have HO7 : Hid (w7.heap[w.heap.size]? = some (Obj.cells #[Value.int IntKind.i64 o.k, Value.string o.c, Value.string o.e, Value.string o.u, Value.int IntKind.i64 o.n] 23 (0, 0))) := by show _ = _; rw [hw7]; exact blk_alloc HO6.out _
  have HP7 : Hid (w7.heap[bp]? = some (Obj.cells #[Value.int IntKind.i64 p.k, Value.string p.c, Value.string p.e, Value.string p.u, Value.int IntKind.i64 p.n] 23 (0, 0))) := by show _ = _; rw [hw7]; exact blk_alloc HP6.out _
  have HQ7 : Hid (w7.heap[w6.heap.size]? = some (Obj.cells #[Value.int IntKind.i64 p.k, Value.string p.c, Value.string p.e, Value.string p.u, Value.int IntKind.i64 p.n] 29 (0, 0))) := by show _ = _; rw [hw7]; exact blk_new w6 _
  clear hw7
  generalize w6.heap.size = bq at *
  obtain ⟨x0, x1, x2, x3, x4, _, _, _, _, _⟩ := resF HO7.out
  obtain ⟨y0, y1, y2, y3, y4, _, _, _, _, _⟩ := resF HP7.out
  obtain ⟨z0, z1, z2, z3, z4, _, _, _, _, _⟩ := resFr HQ7.out
  have heq : ∀ W' : World, (binOp .eql 29 (.agg #[Value.int IntKind.i64 p.k, Value.string p.c, Value.string p.e, Value.string p.u, Value.int IntKind.i64 p.n]) (.agg #[Value.int IntKind.i64 p.k, Value.string p.c, Value.string p.e, Value.string p.u, Value.int IntKind.i64 p.n])).run Tryd.prog W' = .ok (.bool true) W' := fun W' => by have h := eqOrdR p p W'; rw [same_self] at h; exact h
  have hmb : ∀ b : Bool, mayO o = b → (y == 0) = b := fun b h => hyb.trans h
  have HYB := Lib.hid hmb
  clear hyb hmb
  generalize hmo : mayO o = mo at *
  have hy0 : (y == 0) = mo := HYB.out mo rfl
  clear hmo
  have g5 := Hg5.out
  clear Hg5
  have k5 : decide (1 ≤ o.k) = false := decide_eq_false (by omega)
  have hc : chgO o.k = false := by unfold chgO; rw [k5]; simp
  have HB7d : Hid (Below w.heap.size w w7.drew) := HB7.out.drew
  clear HB7
  have HB7 := HB7d
  go_upto_region 9 with fail
  refine wp_region_held_drew (S := (fun w' => w'.cell? ⟨w.heap.size, 0, none⟩ = some (.int .i64 o.k) ∧ w'.cell? ⟨w.heap.size, 1, none⟩ = some (.string o.c) ∧ w'.cell? ⟨w.heap.size, 2, none⟩ = some (.string o.e) ∧ w'.cell? ⟨w.heap.size, 3, none⟩ = some (.string o.u) ∧ w'.cell? ⟨w.heap.size, 4, none⟩ = some (.int .i64 o.n) ∧ w'.cell? ⟨bp, 0, none⟩ = some (.int .i64 p.k) ∧ w'.cell? ⟨bp, 1, none⟩ = some (.string p.c) ∧ w'.cell? ⟨bp, 2, none⟩ = some (.string p.e) ∧ w'.cell? ⟨bp, 3, none⟩ = some (.string p.u) ∧ w'.cell? ⟨bp, 4, none⟩ = some (.int .i64 p.n) ∧ w'.cell? ⟨bq, 0, none⟩ = some (.int .i64 p.k) ∧ w'.cell? ⟨bq, 1, none⟩ = some (.string p.c) ∧ w'.cell? ⟨bq, 2, none⟩ = some (.string p.e) ∧ w'.cell? ⟨bq, 3, none⟩ = some (.string p.u) ∧ w'.cell? ⟨bq, 4, none⟩ = some (.int .i64 p.n))) (by kernel_rfl) (by (try dsimp only); exact ⟨x0, x1, x2, x3, x4, y0, y1, y2, y3, y4, z0, z1, z2, z3, z4⟩) (fun hHeld => ?_)
  (refine wpAnyH_take2 (i := 0) (d := some 60) (v := ?_) rfl rfl (by kernel_rfl) (by kernel_rfl) (by kernel_rfl) (fun _ _ _ h => h) (Or.inl ⟨by rfl, ?_⟩) (by assumption) ?_; rotate_left; focus (intro w_ hSw_; (try dsimp only at hSw_); go_simp; try with_reducible rfl); try simp only [Act.put, List.setIfInBounds_toArray, List.set_cons_zero, List.set_cons_succ])
  (refine wpAnyH_take2 (i := 1) (d := some 61) (v := ?_) rfl rfl (by kernel_rfl) (by kernel_rfl) (by kernel_rfl) (fun _ _ _ h => h) (Or.inl ⟨by rfl, ?_⟩) (by assumption) ?_; rotate_left; focus (intro w_ hSw_; (try dsimp only at hSw_); go_simp; try with_reducible rfl); try simp only [Act.put, List.setIfInBounds_toArray, List.set_cons_zero, List.set_cons_succ])
  (refine wpAnyH_take2 (i := 2) (d := some 62) (v := ?_) rfl rfl (by kernel_rfl) (by kernel_rfl) (by kernel_rfl) (fun _ _ _ h => h) (Or.inl ⟨by rfl, ?_⟩) (by assumption) ?_; rotate_left; focus (intro w_ hSw_; (try dsimp only at hSw_); go_simp; try with_reducible rfl); try simp only [Act.put, List.setIfInBounds_toArray, List.set_cons_zero, List.set_cons_succ])
  (refine wpAnyH_take2 (i := 3) (d := some 63) (v := ?_) rfl rfl (by kernel_rfl) (by kernel_rfl) (by kernel_rfl) (fun _ _ _ h => h) (Or.inl ⟨by rfl, ?_⟩) (by assumption) ?_; rotate_left; focus (intro w_ hSw_; (try dsimp only at hSw_); go_simp; try with_reducible rfl); try simp only [Act.put, List.setIfInBounds_toArray, List.set_cons_zero, List.set_cons_succ])
  (refine wpAnyH_take2 (i := 4) (d := some 64) (v := ?_) rfl rfl (by kernel_rfl) (by kernel_rfl) (by kernel_rfl) (fun _ _ _ h => h) (Or.inl ⟨by kernel_rfl, ?_⟩) (by assumption) ?_; rotate_left; focus (intro w_ hSw_; (try dsimp only at hSw_); go_simp; try with_reducible rfl); try simp only [Act.put, List.setIfInBounds_toArray, List.set_cons_zero, List.set_cons_succ])
  (refine wpAnyH_take2 (i := 5) (d := some 65) (v := ?_) rfl rfl (by kernel_rfl) (by kernel_rfl) (by kernel_rfl) (fun _ _ _ h => h) (Or.inl ⟨by kernel_rfl, ?_⟩) (by assumption) ?_; rotate_left; focus (intro w_ hSw_; (try dsimp only at hSw_); go_simp; try with_reducible rfl); try simp only [Act.put, List.setIfInBounds_toArray, List.set_cons_zero, List.set_cons_succ])
  (refine wpAnyH_take2 (i := 6) (d := some 66) (v := ?_) rfl rfl (by kernel_rfl) (by kernel_rfl) (by kernel_rfl) (fun _ _ _ h => h) (Or.inl ⟨by kernel_rfl, ?_⟩) (by assumption) ?_; rotate_left; focus (intro w_ hSw_; (try dsimp only at hSw_); go_simp; try with_reducible rfl); try simp only [Act.put, List.setIfInBounds_toArray, List.set_cons_zero, List.set_cons_succ])
  (refine wpAnyH_take2 (i := 7) (d := some 67) (v := ?_) rfl rfl (by kernel_rfl) (by kernel_rfl) (by kernel_rfl) (fun _ _ _ h => h) (Or.inl ⟨by rfl, ?_⟩) (by assumption) ?_; rotate_left; focus (intro w_ hSw_; (try dsimp only at hSw_); go_simp; try with_reducible rfl); try simp only [Act.put, List.setIfInBounds_toArray, List.set_cons_zero, List.set_cons_succ])
  (refine wpAnyH_take2 (i := 8) (d := some 68) (v := ?_) rfl rfl (by kernel_rfl) (by kernel_rfl) (by kernel_rfl) (fun _ _ _ h => h) (Or.inl ⟨by rfl, ?_⟩) (by assumption) ?_; rotate_left; focus (intro w_ hSw_; (try dsimp only at hSw_); go_simp; try with_reducible rfl); try simp only [Act.put, List.setIfInBounds_toArray, List.set_cons_zero, List.set_cons_succ])
  (refine wpAnyH_take2 (i := 9) (d := some 69) (v := ?_) rfl rfl (by kernel_rfl) (by kernel_rfl) (by kernel_rfl) (fun _ _ _ h => h) (Or.inl ⟨by kernel_rfl, ?_⟩) (by assumption) ?_; rotate_left; focus (intro w_ hSw_; (try dsimp only at hSw_); go_simp; try with_reducible rfl); try simp only [Act.put, List.setIfInBounds_toArray, List.set_cons_zero, List.set_cons_succ])
  (refine wpAnyH_take2 (i := 10) (d := some 70) (v := ?_) rfl rfl (by kernel_rfl) (by kernel_rfl) (by kernel_rfl) (fun _ _ _ h => h) (Or.inl ⟨by kernel_rfl, ?_⟩) (by assumption) ?_; rotate_left; focus (intro w_ hSw_; (try dsimp only at hSw_); go_simp; try with_reducible rfl); try simp only [Act.put, List.setIfInBounds_toArray, List.set_cons_zero, List.set_cons_succ])
  (refine wpAnyH_take2 (i := 11) (d := some 71) (v := ?_) rfl rfl (by kernel_rfl) (by kernel_rfl) (by kernel_rfl) (fun _ _ _ h => h) (Or.inl ⟨by kernel_rfl, ?_⟩) (by assumption) ?_; rotate_left; focus (intro w_ hSw_; (try dsimp only at hSw_); go_simp; try with_reducible rfl); try simp only [Act.put, List.setIfInBounds_toArray, List.set_cons_zero, List.set_cons_succ])
  (refine wpAnyH_take2 (i := 12) (d := some 72) (v := ?_) rfl rfl (by kernel_rfl) (by kernel_rfl) (by kernel_rfl) (fun _ _ _ h => h) (Or.inl ⟨by rfl, ?_⟩) (by assumption) ?_; rotate_left; focus (intro w_ hSw_; (try dsimp only at hSw_); go_simp; try with_reducible rfl); try simp only [Act.put, List.setIfInBounds_toArray, List.set_cons_zero, List.set_cons_succ])
  (refine wpAnyH_take2 (i := 13) (d := some 73) (v := ?_) rfl rfl (by kernel_rfl) (by kernel_rfl) (by kernel_rfl) (fun _ _ _ h => h) (Or.inl ⟨by rfl, ?_⟩) (by assumption) ?_; rotate_left; focus (intro w_ hSw_; (try dsimp only at hSw_); go_simp; try with_reducible rfl); try simp only [Act.put, List.setIfInBounds_toArray, List.set_cons_zero, List.set_cons_succ])
  (refine wpAnyH_take2 (i := 14) (d := some 74) (v := ?_) rfl rfl (by kernel_rfl) (by kernel_rfl) (by kernel_rfl) (fun _ _ _ h => h) (Or.inl ⟨by kernel_rfl, ?_⟩) (by assumption) ?_; rotate_left; focus (intro w_ hSw_; (try dsimp only at hSw_); go_simp; try with_reducible rfl); try simp only [Act.put, List.setIfInBounds_toArray, List.set_cons_zero, List.set_cons_succ])
  (refine wpAnyH_take2 (i := 15) (d := some 75) (v := ?_) rfl rfl (by kernel_rfl) (by kernel_rfl) (by kernel_rfl) (fun _ _ _ h => h) (Or.inl ⟨by kernel_rfl, ?_⟩) (by assumption) ?_; rotate_left; focus (intro w_ hSw_; (try dsimp only at hSw_); go_simp; try with_reducible rfl); try simp only [Act.put, List.setIfInBounds_toArray, List.set_cons_zero, List.set_cons_succ])
  (refine wpAnyH_take2 (i := 16) (d := some 76) (v := ?_) rfl rfl (by kernel_rfl) (by kernel_rfl) (by kernel_rfl) (fun _ _ _ h => h) (Or.inl ⟨by kernel_rfl, ?_⟩) (by assumption) ?_; rotate_left; focus (intro w_ hSw_; (try dsimp only at hSw_); go_simp; try with_reducible rfl); try simp only [Act.put, List.setIfInBounds_toArray, List.set_cons_zero, List.set_cons_succ])
  (refine wpAnyH_take2 (i := 17) (d := some 77) (v := ?_) rfl rfl (by kernel_rfl) (by kernel_rfl) (by kernel_rfl) (fun _ _ _ h => h) (Or.inl ⟨by rfl, ?_⟩) (by assumption) ?_; rotate_left; focus (intro w_ hSw_; (try dsimp only at hSw_); go_simp; try with_reducible rfl); try simp only [Act.put, List.setIfInBounds_toArray, List.set_cons_zero, List.set_cons_succ])
  (refine wpAnyH_take2 (i := 18) (d := some 78) (v := ?_) rfl rfl (by kernel_rfl) (by kernel_rfl) (by kernel_rfl) (fun _ _ _ h => h) (Or.inl ⟨by rfl, ?_⟩) (by assumption) ?_; rotate_left; focus (intro w_ hSw_; (try dsimp only at hSw_); go_simp; try with_reducible rfl); try simp only [Act.put, List.setIfInBounds_toArray, List.set_cons_zero, List.set_cons_succ])
  (refine wpAnyH_take2 (i := 19) (d := some 79) (v := ?_) rfl rfl (by kernel_rfl) (by kernel_rfl) (by kernel_rfl) (fun _ _ _ h => h) (Or.inl ⟨by kernel_rfl, ?_⟩) (by assumption) ?_; rotate_left; focus (intro w_ hSw_; (try dsimp only at hSw_); go_simp; try with_reducible rfl); try simp only [Act.put, List.setIfInBounds_toArray, List.set_cons_zero, List.set_cons_succ])
  (refine wpAnyH_take2 (i := 20) (d := some 80) (v := ?_) rfl rfl (by kernel_rfl) (by kernel_rfl) (by kernel_rfl) (fun _ _ _ h => h) (Or.inl ⟨by kernel_rfl, ?_⟩) (by assumption) ?_; rotate_left; focus (intro w_ hSw_; (try dsimp only at hSw_); go_simp; try with_reducible rfl); try simp only [Act.put, List.setIfInBounds_toArray, List.set_cons_zero, List.set_cons_succ])
  (refine wpAnyH_take2 (i := 21) (d := some 81) (v := ?_) rfl rfl (by kernel_rfl) (by kernel_rfl) (by kernel_rfl) (fun _ _ _ h => h) (Or.inl ⟨by kernel_rfl, ?_⟩) (by assumption) ?_; rotate_left; focus (intro w_ hSw_; (try dsimp only at hSw_); go_simp; try with_reducible rfl); try simp only [Act.put, List.setIfInBounds_toArray, List.set_cons_zero, List.set_cons_succ])
  (refine wpAnyH_take2 (i := 22) (d := some 82) (v := ?_) rfl rfl (by kernel_rfl) (by kernel_rfl) (by kernel_rfl) (fun _ _ _ h => h) (Or.inl ⟨by rfl, ?_⟩) (by assumption) ?_; rotate_left; focus (intro w_ hSw_; (try dsimp only at hSw_); go_simp; try with_reducible rfl); try simp only [Act.put, List.setIfInBounds_toArray, List.set_cons_zero, List.set_cons_succ])
  (refine wpAnyH_take2 (i := 23) (d := some 83) (v := ?_) rfl rfl (by kernel_rfl) (by kernel_rfl) (by kernel_rfl) (fun _ _ _ h => h) (Or.inl ⟨by rfl, ?_⟩) (by assumption) ?_; rotate_left; focus (intro w_ hSw_; (try dsimp only at hSw_); go_simp; try with_reducible rfl); try simp only [Act.put, List.setIfInBounds_toArray, List.set_cons_zero, List.set_cons_succ])
  (refine wpAnyH_take2 (i := 24) (d := some 84) (v := ?_) rfl rfl (by kernel_rfl) (by kernel_rfl) (by kernel_rfl) (fun _ _ _ h => h) (Or.inl ⟨by kernel_rfl, ?_⟩) (by assumption) ?_; rotate_left; focus (intro w_ hSw_; (try dsimp only at hSw_); go_simp; try with_reducible rfl); try simp only [Act.put, List.setIfInBounds_toArray, List.set_cons_zero, List.set_cons_succ])
  (refine wpAnyH_take2 (i := 26) (d := some 86) (v := ?_) rfl rfl (by kernel_rfl) (by kernel_rfl) (by kernel_rfl) (fun _ _ _ h => h) (Or.inl ⟨by kernel_rfl, ?_⟩) (by assumption) ?_; rotate_left; focus (intro w_ hSw_; (try dsimp only at hSw_); go_simp; try with_reducible rfl); try simp only [Act.put, List.setIfInBounds_toArray, List.set_cons_zero, List.set_cons_succ])
  (refine wpAnyH_take2 (i := 27) (d := some 87) (v := ?_) rfl rfl (by kernel_rfl) (by kernel_rfl) (by kernel_rfl) (fun _ _ _ h => h) (Or.inl ⟨by kernel_rfl, ?_⟩) (by assumption) ?_; rotate_left; focus (intro w_ hSw_; (try dsimp only at hSw_); go_simp; try with_reducible rfl); try simp only [Act.put, List.setIfInBounds_toArray, List.set_cons_zero, List.set_cons_succ])
  (refine wpAnyH_ready (rs := [25]) (by kernel_rfl) (by simp) ?_; refine AllReadyH.cons rfl (fun K hK => ?_) AllReadyH.nil; go_simp; go_at_call 11; refine (M1.out _).mono ?_; rintro e w8 ⟨rfl, hb⟩; have HB8 := Lib.hid (HB7.out.trans (hb.mono HB7.out.size)); have HO8 := Lib.hid ((hb.block w.heap.size (blk_lt HO7.out)).trans HO7.out); have HP8 := Lib.hid ((hb.block bp (blk_lt HP7.out)).trans HP7.out); have HQ8 := Lib.hid ((hb.block bq (blk_lt HQ7.out)).trans HQ7.out); clear hb; refine hK.out _ _ (by (try dsimp only); exact ⟨blk_cell HO8.out 0, blk_cell HO8.out 1, blk_cell HO8.out 2, blk_cell HO8.out 3, blk_cell HO8.out 4, blk_cell HP8.out 0, blk_cell HP8.out 1, blk_cell HP8.out 2, blk_cell HP8.out 3, blk_cell HP8.out 4, blk_cell HQ8.out 0, blk_cell HQ8.out 1, blk_cell HQ8.out 2, blk_cell HQ8.out 3, blk_cell HQ8.out 4⟩) (fun hHeld2 => ?_); clear hK K; clear hHeld; have hHeld := hHeld2; clear hHeld2; try simp only [Act.put, List.setIfInBounds_toArray, List.set_cons_zero, List.set_cons_succ])
  (refine wpAnyH_take2 (i := 28) (d := some 88) (v := ?_) rfl rfl (by kernel_rfl) (by kernel_rfl) (by kernel_rfl) (fun _ _ _ h => h) (Or.inl ⟨by kernel_rfl, ?_⟩) (by assumption) ?_; rotate_left; focus (intro w_ hSw_; (try dsimp only at hSw_); go_simp; try with_reducible rfl); try simp only [Act.put, List.setIfInBounds_toArray, List.set_cons_zero, List.set_cons_succ])
  (refine wpAnyH_take2 (i := 29) (d := some 89) (v := ?_) rfl rfl (by kernel_rfl) (by kernel_rfl) (by kernel_rfl) (fun _ _ _ h => h) (Or.inl ⟨by rfl, ?_⟩) (by assumption) ?_; rotate_left; focus (intro w_ hSw_; (try dsimp only at hSw_); go_simp; try with_reducible rfl); try simp only [Act.put, List.setIfInBounds_toArray, List.set_cons_zero, List.set_cons_succ])
  (refine wpAnyH_take2 (i := 30) (d := some 90) (v := ?_) rfl rfl (by kernel_rfl) (by kernel_rfl) (by kernel_rfl) (fun _ _ _ h => h) (Or.inl ⟨by rfl, ?_⟩) (by assumption) ?_; rotate_left; focus (intro w_ hSw_; (try dsimp only at hSw_); go_simp; try with_reducible rfl); try simp only [Act.put, List.setIfInBounds_toArray, List.set_cons_zero, List.set_cons_succ])
  (refine wpAnyH_take2 (i := 31) (d := some 91) (v := ?_) rfl rfl (by kernel_rfl) (by kernel_rfl) (by kernel_rfl) (fun _ _ _ h => h) (Or.inl ⟨by kernel_rfl, ?_⟩) (by assumption) ?_; rotate_left; focus (intro w_ hSw_; (try dsimp only at hSw_); go_simp; try with_reducible rfl); try simp only [Act.put, List.setIfInBounds_toArray, List.set_cons_zero, List.set_cons_succ])
  (refine wpAnyH_take2 (i := 33) (d := some 93) (v := ?_) rfl rfl (by kernel_rfl) (by kernel_rfl) (by kernel_rfl) (fun _ _ _ h => h) (Or.inl ⟨by kernel_rfl, ?_⟩) (by assumption) ?_; rotate_left; focus (intro w_ hSw_; (try dsimp only at hSw_); go_simp; try with_reducible rfl); try simp only [Act.put, List.setIfInBounds_toArray, List.set_cons_zero, List.set_cons_succ])
  (refine wpAnyH_take2 (i := 34) (d := some 94) (v := ?_) rfl rfl (by kernel_rfl) (by kernel_rfl) (by kernel_rfl) (fun _ _ _ h => h) (Or.inl ⟨by kernel_rfl, ?_⟩) (by assumption) ?_; rotate_left; focus (intro w_ hSw_; (try dsimp only at hSw_); go_simp; try with_reducible rfl); try simp only [Act.put, List.setIfInBounds_toArray, List.set_cons_zero, List.set_cons_succ])
  (refine wpAnyH_take2 (i := 35) (d := some 95) (v := ?_) rfl rfl (by kernel_rfl) (by kernel_rfl) (by kernel_rfl) (fun _ _ _ h => h) (Or.inl ⟨by kernel_rfl, ?_⟩) (by assumption) ?_; rotate_left; focus (intro w_ hSw_; (try dsimp only at hSw_); go_simp; try with_reducible rfl); try simp only [Act.put, List.setIfInBounds_toArray, List.set_cons_zero, List.set_cons_succ])
  (refine wpAnyH_ready (rs := [32]) (by kernel_rfl) (by simp) ?_; refine AllReadyH.cons rfl (fun K hK => ?_) AllReadyH.nil; go_simp; go_at_call 12; refine (chg_gen _ _ _ _ _ _).mono ?_; rintro e w9 ⟨rfl, hb⟩; have HB9 := Lib.hid (HB8.out.trans (hb.mono HB8.out.size)); have HO9 := Lib.hid ((hb.block w.heap.size (blk_lt HO8.out)).trans HO8.out); have HP9 := Lib.hid ((hb.block bp (blk_lt HP8.out)).trans HP8.out); have HQ9 := Lib.hid ((hb.block bq (blk_lt HQ8.out)).trans HQ8.out); clear hb; refine hK.out _ _ (by (try dsimp only); exact ⟨blk_cell HO9.out 0, blk_cell HO9.out 1, blk_cell HO9.out 2, blk_cell HO9.out 3, blk_cell HO9.out 4, blk_cell HP9.out 0, blk_cell HP9.out 1, blk_cell HP9.out 2, blk_cell HP9.out 3, blk_cell HP9.out 4, blk_cell HQ9.out 0, blk_cell HQ9.out 1, blk_cell HQ9.out 2, blk_cell HQ9.out 3, blk_cell HQ9.out 4⟩) (fun hHeld2 => ?_); clear hK K; clear hHeld; have hHeld := hHeld2; clear hHeld2; try simp only [Act.put, List.setIfInBounds_toArray, List.set_cons_zero, List.set_cons_succ])
  (refine wpAnyH_take2 (i := 36) (d := some 96) (v := ?_) rfl rfl (by kernel_rfl) (by kernel_rfl) (by kernel_rfl) (fun _ _ _ h => h) (Or.inl ⟨by kernel_rfl, ?_⟩) (by assumption) ?_; rotate_left; focus (intro w_ hSw_; (try dsimp only at hSw_); go_simp; try with_reducible rfl); try simp only [Act.put, List.setIfInBounds_toArray, List.set_cons_zero, List.set_cons_succ])
  (refine wpAnyH_take2 (i := 37) (d := some 97) (v := undef) rfl rfl (by kernel_rfl) (by kernel_rfl) (by kernel_rfl) (fun _ _ _ h => h) (Or.inr ⟨by kernel_rfl, rfl⟩) (by assumption) ?_; try simp only [Act.put, List.setIfInBounds_toArray, List.set_cons_zero, List.set_cons_succ])
  (refine wpAnyH_take2 (i := 38) (d := some 98) (v := undef) rfl rfl (by kernel_rfl) (by kernel_rfl) (by kernel_rfl) (fun _ _ _ h => h) (Or.inr ⟨by kernel_rfl, rfl⟩) (by assumption) ?_; try simp only [Act.put, List.setIfInBounds_toArray, List.set_cons_zero, List.set_cons_succ])
  (refine wpAnyH_take2 (i := 39) (d := some 99) (v := undef) rfl rfl (by kernel_rfl) (by kernel_rfl) (by kernel_rfl) (fun _ _ _ h => h) (Or.inr ⟨by kernel_rfl, rfl⟩) (by assumption) ?_; try simp only [Act.put, List.setIfInBounds_toArray, List.set_cons_zero, List.set_cons_succ])
  (refine wpAnyH_take2 (i := 40) (d := some 100) (v := ?_) rfl rfl (by kernel_rfl) (by kernel_rfl) (by kernel_rfl) (fun _ _ _ h => h) (Or.inl ⟨by kernel_rfl, ?_⟩) (by assumption) ?_; rotate_left; focus (intro w_ hSw_; (try dsimp only at hSw_); go_simp; try with_reducible rfl); try simp only [Act.put, List.setIfInBounds_toArray, List.set_cons_zero, List.set_cons_succ])
  (refine wpAnyH_take2 (i := 41) (d := some 101) (v := ?_) rfl rfl (by kernel_rfl) (by kernel_rfl) (by kernel_rfl) (fun _ _ _ h => h) (Or.inl ⟨by kernel_rfl, ?_⟩) (by assumption) ?_; rotate_left; focus (intro w_ hSw_; (try dsimp only at hSw_); go_simp; try with_reducible rfl); try simp only [Act.put, List.setIfInBounds_toArray, List.set_cons_zero, List.set_cons_succ])
  (refine wpAnyH_take2 (i := 42) (d := some 102) (v := undef) rfl rfl (by kernel_rfl) (by kernel_rfl) (by kernel_rfl) (fun _ _ _ h => h) (Or.inr ⟨by kernel_rfl, rfl⟩) (by assumption) ?_; try simp only [Act.put, List.setIfInBounds_toArray, List.set_cons_zero, List.set_cons_succ])
  (refine wpAnyH_take2 (i := 43) (d := some 103) (v := undef) rfl rfl (by kernel_rfl) (by kernel_rfl) (by kernel_rfl) (fun _ _ _ h => h) (Or.inr ⟨by kernel_rfl, rfl⟩) (by assumption) ?_; try simp only [Act.put, List.setIfInBounds_toArray, List.set_cons_zero, List.set_cons_succ])
  (refine wpAnyH_take2 (i := 44) (d := some 104) (v := undef) rfl rfl (by kernel_rfl) (by kernel_rfl) (by kernel_rfl) (fun _ _ _ h => h) (Or.inr ⟨by kernel_rfl, rfl⟩) (by assumption) ?_; try simp only [Act.put, List.setIfInBounds_toArray, List.set_cons_zero, List.set_cons_succ])
  (refine wpAnyH_take2 (i := 45) (d := some 105) (v := ?_) rfl rfl (by kernel_rfl) (by kernel_rfl) (by kernel_rfl) (fun _ _ _ h => h) (Or.inl ⟨by kernel_rfl, ?_⟩) (by assumption) ?_; rotate_left; focus (intro w_ hSw_; (try dsimp only at hSw_); go_simp; try with_reducible rfl); try simp only [Act.put, List.setIfInBounds_toArray, List.set_cons_zero, List.set_cons_succ])
  (refine wpAnyH_take2 (i := 46) (d := some 106) (v := ?_) rfl rfl (by kernel_rfl) (by kernel_rfl) (by kernel_rfl) (fun _ _ _ h => h) (Or.inl ⟨by kernel_rfl, ?_⟩) (by assumption) ?_; rotate_left; focus (intro w_ hSw_; (try dsimp only at hSw_); go_simp; try with_reducible rfl); try simp only [Act.put, List.setIfInBounds_toArray, List.set_cons_zero, List.set_cons_succ])
  (refine wpAnyH_take2 (i := 47) (d := some 107) (v := ?_) rfl rfl (by kernel_rfl) (by kernel_rfl) (by kernel_rfl) (fun _ _ _ h => h) (Or.inl ⟨by rfl, ?_⟩) (by assumption) ?_; rotate_left; focus (intro w_ hSw_; (try dsimp only at hSw_); go_simp; try with_reducible rfl); try simp only [Act.put, List.setIfInBounds_toArray, List.set_cons_zero, List.set_cons_succ])
  (refine wpAnyH_take2 (i := 48) (d := some 4) (v := ?_) rfl rfl (by kernel_rfl) (by kernel_rfl) (by kernel_rfl) (fun _ _ _ h => h) (Or.inl ⟨by rfl, ?_⟩) (by assumption) ?_; rotate_left; focus (intro w_ hSw_; (try dsimp only at hSw_); go_simp; try with_reducible rfl); try simp only [Act.put, List.setIfInBounds_toArray, List.set_cons_zero, List.set_cons_succ])
  refine wpAnyH_done (by kernel_rfl) ?_ _
  go_wp2
  go_ret
  exact ⟨congrArg _ (put4 _ _ (by simp only [Act.put, Array.size_setIfInBounds]; show 4 < 108; decide)), HB9.out⟩
theorem OrderTells_any (o : Ord) (s : ByteArray) (h0 : -9223372036854775808 ≤ o.n) (h1 : o.n ≤ 9223372036854775807) (w : World) (ht : Tab w) :
    Calls Tryd.prog 3 #[ordV o, .string s] w fun e w' => e = .returned (.bool true) ∧ Below w.heap.size w w' := by
  by_cases g5 : 1 ≤ o.k
  · by_cases g6 : o.k ≤ 9
    · by_cases g7 : o.k = 7
      · exact OrderTells_a o s h0 h1 g7 w ht
      · exact OrderTells_b o s h0 h1 g5 g6 g7 w ht
    · exact OrderTells_c o s h0 h1 g5 g6 w ht
  · exact OrderTells_d o s h0 h1 g5 w ht
end Go.Proofs.YtdphomiljkclbaaDoor
