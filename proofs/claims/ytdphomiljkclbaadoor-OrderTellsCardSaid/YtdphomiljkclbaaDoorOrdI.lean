/- Lemmas and contracts for the functions of one layer of the program, used by the law's proof. No conditions beyond those typed. -/
import Derived.Test.YtdphomiljkclbaaDoorOrdH
namespace Go.Proofs.YtdphomiljkclbaaDoor
set_option linter.unusedVariables false
set_option linter.unusedSimpArgs false
open Go.RowKit Go.Proofs.YtdphomiljkclbaaDoorW.PrintWords Go.Proofs.YtdphomiljkclbaaDoorW.PrintLast Go.Proofs.YtdphomiljkclbaaDoorW.PrintMore Go.Proofs.YtdphomiljkclbaaDoor.P

theorem body_size {o : Ord} (hm : mayO o = true) : (body o).size ≤ 404 := by
  have hb := mayO_bounds hm
  have h1 := words_size o (by omega) (by omega) hm
  have h2 : (wordsO o).length ≤ 4 := by
    unfold wordsO textsO
    rw [List.length_cons, List.length_map, Array.length_toList]
    have := partsK_size o.k
    show (partsK o.k).size + 1 ≤ 4
    omega
  have h3 := joined_size (wordsO o) (by unfold wordsO; simp) h1
  have e : joined (wordsO o) = body o := by rw [text_eq]; rfl
  rw [e] at h3
  omega
theorem write_may {o : Ord} (hm : mayO o = true) (W : World) (ht : Tab W) :
    Calls Tryd.prog 7 #[ordV o] W fun e w' => e = .returned (.tuple #[.string (body o ++ ⟨#[59]⟩), .int .i64 0]) ∧ Below W.heap.size W w' := by
  have hb := mayO_bounds hm
  have h : writeR o = (body o ++ ⟨#[59]⟩, 0) := by unfold writeR; rw [hm, ← text_body]; rfl
  exact write_of h (by omega) (by omega) (by omega) (by omega) (by omega) W ht
theorem write_not {o : Ord} (hm : mayO o = false) (hc : o.c.size ≤ 100) (he : o.e.size ≤ 100) (hus : o.u.size ≤ 100) (h0 : -9223372036854775808 ≤ o.n) (h1 : o.n ≤ 9223372036854775807) (W : World) (ht : Tab W) :
    Calls Tryd.prog 7 #[ordV o] W fun e w' => e = .returned (.tuple #[.string ⟨#[]⟩, .int .i64 2]) ∧ Below W.heap.size W w' := by
  have h : writeR o = (⟨#[]⟩, 2) := by unfold writeR; rw [hm]; rfl
  exact write_of h (by omega) (by omega) (by omega) h0 h1 W ht
theorem boxO (w : World) (o : Ord) : Below w.heap.size w (w.alloc (.cells #[Value.int IntKind.i64 o.k, Value.string o.c, Value.string o.e, Value.string o.u, Value.int IntKind.i64 o.n] 23)) := below_alloc (Below.refl _ _) _

set_option maxHeartbeats 2000000 in
set_option maxRecDepth 100000 in
theorem OrderEnds_any (o : Ord) (more : ByteArray) (h0 : -9223372036854775808 ≤ o.n) (h1 : o.n ≤ 9223372036854775807) (w : World) (ht : Tab w) :
    Calls Tryd.prog 5 #[ordV o, .string more] w fun e w' => e = .returned (.bool true) ∧ Below w.heap.size w w' := by
  have hu := Tryd.underlying23
  have HT := Lib.hid ht
  have H0 := Lib.hid h0
  have H1 := Lib.hid h1
  clear ht h0 h1
  go_enter Tryd.func5, Tryd.ntmps5
  obtain ⟨W, hW⟩ : ∃ W, W = w.alloc (.cells #[Value.int IntKind.i64 o.k, Value.string o.c, Value.string o.e, Value.string o.u, Value.int IntKind.i64 o.n] 23) := ⟨_, rfl⟩
  have HB0 : Hid (Below w.heap.size w W) := by show Below _ _ _; rw [hW]; exact boxO w o
  have HO0 : Hid (W.heap[w.heap.size]? = some (Obj.cells #[Value.int IntKind.i64 o.k, Value.string o.c, Value.string o.e, Value.string o.u, Value.int IntKind.i64 o.n] 23 (0, 0))) := by show _ = _; rw [hW]; exact blk_new w _
  have hW2 := hW.symm
  clear hW
  go_upto_region 3 with (go_at_call 6; refine (awake_any _ (tab_below HT.out HB0.out)).mono ?_; rintro e w1 ⟨rfl, hb⟩; have HB1 := Lib.hid (HB0.out.trans (hb.mono HB0.out.size)); have HO1 := Lib.hid ((hb.block w.heap.size (blk_lt HO0.out)).trans HO0.out); clear hb)
  clear hW2
  have y0 : w1.cell? ⟨w.heap.size, 0, none⟩ = some (.int .i64 o.k) := blk_cell HO1.out 0
  have y1 : w1.cell? ⟨w.heap.size, 1, none⟩ = some (.string o.c) := blk_cell HO1.out 1
  have y2 : w1.cell? ⟨w.heap.size, 2, none⟩ = some (.string o.e) := blk_cell HO1.out 2
  have y3 : w1.cell? ⟨w.heap.size, 3, none⟩ = some (.string o.u) := blk_cell HO1.out 3
  have y4 : w1.cell? ⟨w.heap.size, 4, none⟩ = some (.int .i64 o.n) := blk_cell HO1.out 4
  by_cases g1 : (100 : Int) < (o.c.size : Int)
  · go_wp2
    go_ret
    exact ⟨rfl, HB1.out⟩
  by_cases g2 : (100 : Int) < (o.e.size : Int)
  · go_wp2
    go_ret
    exact ⟨rfl, HB1.out⟩
  by_cases g3 : (100 : Int) < (o.u.size : Int)
  · go_wp2
    go_ret
    exact ⟨rfl, HB1.out⟩
  by_cases g4 : (20 : Int) < (more.size : Int)
  · go_wp2
    go_ret
    exact ⟨rfl, HB1.out⟩
  cases hM : mayO o
  · have hw := Lib.hid (write_not hM (by omega) (by omega) (by omega) H0.out H1.out w1 (tab_below HT.out HB1.out))
    go_wp2_with (go_at_call 7; refine (hw.out).mono ?_; rintro e w2 ⟨rfl, hb⟩; have HB2 := Lib.hid (HB1.out.trans (hb.mono HB1.out.size)); clear hb)
    go_ret
    exact ⟨rfl, HB2.out⟩
  · have hw := Lib.hid (write_may hM w1 (tab_below HT.out HB1.out))
    have rs := Lib.hid (read_short o hM)
    have rl := Lib.hid (read_long o hM)
    have rp := Lib.hid (read_space o hM)
    have hbs := body_size hM
    obtain ⟨t, ht⟩ : ∃ t, t = body o ++ ⟨#[59]⟩ := ⟨_, rfl⟩
    have hts : t.size = (body o).size + 1 := by rw [ht, ByteArray.size_append]; rfl
    have hex : t.extract 0 (body o).size = body o := by
      rw [ht]
      apply bytes_ext
      · rw [ByteArray.size_extract, ByteArray.size_append]; show min (body o).size ((body o).size + 1) - 0 = _; omega
      · intro k hk
        rw [ByteArray.size_extract] at hk
        rw [bt_extract _ 0 (body o).size k (by rw [ByteArray.size_append]; omega) (by omega), Nat.zero_add, bt_al _ _ _ (by omega)]
    rw [← ht] at hw rl rp
    generalize body o = bd at *
    have HTT := Lib.hid ht
    have HEX := Lib.hid hex
    clear ht hex
    go_upto_region 8 with (go_at_call 7; refine (hw.out).mono ?_; rintro e w2 ⟨rfl, hb⟩; have HB2 := Lib.hid (HB1.out.trans (hb.mono HB1.out.size)); have HO2 := Lib.hid ((hb.block w.heap.size (blk_lt HO1.out)).trans HO1.out); clear hb)
    clear y0 y1 y2 y3 y4
    have hc1 : ¬ 9223372036854775807 < bd.size + 1 + 1 := by omega
    have hc2 : ¬ 9223372036854775807 < bd.size + 1 + 2 := by omega
    have R1 := Lib.hid (fun W' => read_of (s := t.extract 0 bd.size) (o := zeroO) (x := ((bd.size : Nat) : Int)) (y := 2) (by rw [HEX.out]; exact rs.out) (by rw [HEX.out]; omega) W')
    have R2 := Lib.hid (fun W' => read_of rl.out (by rw [ByteArray.size_append]; have e1 : (⟨#[59]⟩ : ByteArray).size = 1 := rfl; omega) W')
    have R3 := Lib.hid (fun W' => read_of rp.out (by rw [ByteArray.size_append]; have e1 : (⟨#[32, 10]⟩ : ByteArray).size = 2 := rfl; omega) W')
    go_upto_region 9 with (go_at_call 9; refine (R1.out _).mono ?_; rintro e w3 ⟨rfl, hb⟩; have HB3 := Lib.hid (HB2.out.trans (hb.mono HB2.out.size)); have HO3 := Lib.hid ((hb.block w.heap.size (blk_lt HO2.out)).trans HO2.out); clear hb)
    obtain ⟨w4, hw4⟩ : ∃ w4, w4 = w3.alloc (.cells #[Value.int IntKind.i64 zeroO.k, Value.string zeroO.c, Value.string zeroO.e, Value.string zeroO.u, Value.int IntKind.i64 zeroO.n] 23) := ⟨_, rfl⟩
    rw [← hw4]
    have HB4 : Hid (Below w.heap.size w w4) := by show Below _ _ _; rw [hw4]; exact below_alloc HB3.out _
    have HO4 : Hid (w4.heap[w.heap.size]? = some (Obj.cells #[Value.int IntKind.i64 o.k, Value.string o.c, Value.string o.e, Value.string o.u, Value.int IntKind.i64 o.n] 23 (0, 0))) := by show _ = _; rw [hw4]; exact blk_alloc HO3.out _
    clear hw4
    generalize w3.heap.size = b3 at *
    go_upto_region 10 with (go_at_call 9; refine (R2.out _).mono ?_; rintro e w5 ⟨rfl, hb⟩; have HB5 := Lib.hid (HB4.out.trans (hb.mono HB4.out.size)); have HO5 := Lib.hid ((hb.block w.heap.size (blk_lt HO4.out)).trans HO4.out); clear hb)
    obtain ⟨w6, hw6⟩ : ∃ w6, w6 = w5.alloc (.cells #[Value.int IntKind.i64 zeroO.k, Value.string zeroO.c, Value.string zeroO.e, Value.string zeroO.u, Value.int IntKind.i64 zeroO.n] 23) := ⟨_, rfl⟩
    rw [← hw6]
    have HB6 : Hid (Below w.heap.size w w6) := by show Below _ _ _; rw [hw6]; exact below_alloc HB5.out _
    have HO6 : Hid (w6.heap[w.heap.size]? = some (Obj.cells #[Value.int IntKind.i64 o.k, Value.string o.c, Value.string o.e, Value.string o.u, Value.int IntKind.i64 o.n] 23 (0, 0))) := by show _ = _; rw [hw6]; exact blk_alloc HO5.out _
    clear hw6
    generalize w5.heap.size = b5 at *
    go_upto_region 11 with (go_at_call 9; refine (R3.out _).mono ?_; rintro e w7 ⟨rfl, hb⟩; have HB7 := Lib.hid (HB6.out.trans (hb.mono HB6.out.size)); have HO7 := Lib.hid ((hb.block w.heap.size (blk_lt HO6.out)).trans HO6.out); clear hb)
    obtain ⟨w8, hw8⟩ : ∃ w8, w8 = w7.alloc (.cells #[Value.int IntKind.i64 o.k, Value.string o.c, Value.string o.e, Value.string o.u, Value.int IntKind.i64 o.n] 23) := ⟨_, rfl⟩
    rw [← hw8]
    have HB8 : Hid (Below w.heap.size w w8) := by show Below _ _ _; rw [hw8]; exact below_alloc HB7.out _
    have HO8 : Hid (w8.heap[w.heap.size]? = some (Obj.cells #[Value.int IntKind.i64 o.k, Value.string o.c, Value.string o.e, Value.string o.u, Value.int IntKind.i64 o.n] 23 (0, 0))) := by show _ = _; rw [hw8]; exact blk_alloc HO7.out _
    have HP8 : Hid (w8.heap[w7.heap.size]? = some (Obj.cells #[Value.int IntKind.i64 o.k, Value.string o.c, Value.string o.e, Value.string o.u, Value.int IntKind.i64 o.n] 23 (0, 0))) := by show _ = _; rw [hw8]; exact blk_new w7 _
    clear hw8
    generalize w7.heap.size = b7 at *
    obtain ⟨y0, y1, y2, y3, y4, _, _, _, _, _⟩ := resF HO8.out
    obtain ⟨z0, z1, z2, z3, z4, _, _, _, _, _⟩ := resF HP8.out
    have heq : ∀ W' : World, (binOp .eql 23 (.agg #[Value.int IntKind.i64 o.k, Value.string o.c, Value.string o.e, Value.string o.u, Value.int IntKind.i64 o.n]) (.agg #[Value.int IntKind.i64 o.k, Value.string o.c, Value.string o.e, Value.string o.u, Value.int IntKind.i64 o.n])).run Tryd.prog W' = .ok (.bool true) W' := fun W' => by have h := eqOrdB o o W'; rw [same_self] at h; exact h
    go_wp2_with fail
    go_ret
    exact ⟨rfl, HB8.out⟩
end Go.Proofs.YtdphomiljkclbaaDoor
