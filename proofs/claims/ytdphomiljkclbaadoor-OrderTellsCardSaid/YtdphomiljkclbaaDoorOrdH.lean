/- Lemmas and contracts for the functions of one layer of the program, used by the law's proof. No conditions beyond those typed. -/
import Derived.Test.YtdphomiljkclbaaDoorOrdG
namespace Go.Proofs.YtdphomiljkclbaaDoor
set_option linter.unusedVariables false
set_option linter.unusedSimpArgs false
open Go.RowKit Go.Proofs.YtdphomiljkclbaaDoorW.PrintWords Go.Proofs.YtdphomiljkclbaaDoorW.PrintLast Go.Proofs.YtdphomiljkclbaaDoorW.PrintMore Go.Proofs.YtdphomiljkclbaaDoor.P

theorem read_of {s : ByteArray} {o : Ord} {x y : Int} (h : readR s = (o, x, y)) (hs : s.size ≤ 140737488351232) (W : World) :
    Calls Tryd.prog 9 #[.string s] W fun e w' => e = .returned (.tuple #[.agg #[.int .i64 o.k, .string o.c, .string o.e, .string o.u, .int .i64 o.n], .int .i64 x, .int .i64 y]) ∧ Below W.heap.size W w' := by
  have g := Read_any s hs W
  rw [h] at g
  exact g
theorem write_of {o : Ord} {t : ByteArray} {y : Int} (h : writeR o = (t, y)) (hc : o.c.size ≤ 1000000) (he : o.e.size ≤ 1000000) (hus : o.u.size ≤ 1000000) (h0 : -9223372036854775808 ≤ o.n) (h1 : o.n ≤ 9223372036854775807) (W : World) (ht : Tab W) :
    Calls Tryd.prog 7 #[.agg #[.int .i64 o.k, .string o.c, .string o.e, .string o.u, .int .i64 o.n]] W fun e w' => e = .returned (.tuple #[.string t, .int .i64 y]) ∧ Below W.heap.size W w' := by
  have g := Write_any o (by omega) (by omega) (by omega) h0 h1 W ht
  rw [h] at g
  exact g
theorem may_of {o : Ord} {b : Bool} (h : mayO o = b) (hc : o.c.size ≤ 1000000) (he : o.e.size ≤ 1000000) (hus : o.u.size ≤ 1000000) (W : World) :
    Calls Tryd.prog 11 #[.agg #[.int .i64 o.k, .string o.c, .string o.e, .string o.u, .int .i64 o.n]] W fun e w' => e = .returned (.bool b) ∧ Below W.heap.size W w' := by
  have g := May_any o (by omega) (by omega) (by omega) W
  rw [h] at g
  exact g
theorem may_gen (k : Int) (c e u : ByteArray) (n : Int) (hc : c.size ≤ 1000000) (he : e.size ≤ 1000000) (hus : u.size ≤ 1000000) (W : World) :
    Calls Tryd.prog 11 #[.agg #[.int .i64 k, .string c, .string e, .string u, .int .i64 n]] W fun x w' => x = .returned (.bool (mayO ⟨k, c, e, u, n⟩)) ∧ Below W.heap.size W w' :=
  May_any ⟨k, c, e, u, n⟩ (Nat.le_trans hc (by decide)) (Nat.le_trans he (by decide)) (Nat.le_trans hus (by decide)) W
def chgO (k : Int) : Bool := decide (1 ≤ k) && decide (k ≤ 9) && (k != 7)
theorem chg_gen (k : Int) (c e u : ByteArray) (n : Int) (W : World) :
    Calls Tryd.prog 12 #[.agg #[.int .i64 k, .string c, .string e, .string u, .int .i64 n]] W fun x w' => x = .returned (.bool (chgO k)) ∧ Below W.heap.size W w' := by
  refine order_Changes.calls k c e u n (chgO k) W ?_
  unfold order_Changes.f chgO
  by_cases h1 : k ≥ 1
  · by_cases h2 : k ≤ 9
    · rw [if_pos h1, if_pos h2, decide_eq_true h1, decide_eq_true h2]; rfl
    · rw [if_pos h1, if_neg h2, decide_eq_false h2]; simp
  · rw [if_neg h1, decide_eq_false h1]; simp
theorem eqOrdB (a b : Ord) (w : World) : (binOp .eql 23 (ordV a) (ordV b)).run Tryd.prog w = .ok (.bool (a.same b)) w := by
  rw [run_eql_struct]
  have h := eqOrd 9998 w a b
  rw [h]
  rfl
def o0 : Ord := ⟨2, ⟨#[99, 49]⟩, ⟨#[101]⟩, ⟨#[117]⟩, 0⟩

set_option maxHeartbeats 4000000 in
set_option maxRecDepth 100000 in
theorem awake_any (w : World) (ht : Tab w) : Calls Tryd.prog 6 #[] w fun e w' => e = .returned (.bool true) ∧ Below w.heap.size w w' := by
  have hu := Tryd.underlying23
  have HT := Lib.hid ht
  clear ht
  have C1 : Hid (∀ W, Tab W → Calls Tryd.prog 7 #[.agg #[Value.int IntKind.i64 2, Value.string ⟨#[99, 49]⟩, Value.string ⟨#[101]⟩, Value.string ⟨#[117]⟩, Value.int IntKind.i64 0]] W fun e w' => e = .returned (.tuple #[.string ⟨#[100, 111, 32, 99, 49, 32, 101, 32, 117, 59]⟩, .int .i64 0]) ∧ Below W.heap.size W w') := fun W hW => write_of (o := o0) (by kernel_rfl) (by decide) (by decide) (by decide) (by decide) (by decide) W hW
  have C2 : Hid (∀ W, Calls Tryd.prog 9 #[.string ⟨#[100, 111, 32, 32, 99, 49, 32, 101, 10, 117, 32, 59]⟩] W fun e w' => e = .returned (.tuple #[.agg #[Value.int IntKind.i64 2, Value.string ⟨#[99, 49]⟩, Value.string ⟨#[101]⟩, Value.string ⟨#[117]⟩, Value.int IntKind.i64 0], .int .i64 0, .int .i64 0]) ∧ Below W.heap.size W w') := fun W => read_of (o := o0) (by kernel_rfl) (by decide) W
  have C3 : Hid (∀ W, Calls Tryd.prog 9 #[.string ⟨#[100, 111, 32, 99, 49, 59]⟩] W fun e w' => e = .returned (.tuple #[.agg #[Value.int IntKind.i64 0, Value.string ⟨#[]⟩, Value.string ⟨#[]⟩, Value.string ⟨#[]⟩, Value.int IntKind.i64 0], .int .i64 5, .int .i64 2]) ∧ Below W.heap.size W w') := fun W => read_of (o := zeroO) (by kernel_rfl) (by decide) W
  have C4 : Hid (∀ W, Calls Tryd.prog 9 #[.string ⟨#[116, 105, 99, 107, 32, 48, 59]⟩] W fun e w' => e = .returned (.tuple #[.agg #[Value.int IntKind.i64 0, Value.string ⟨#[]⟩, Value.string ⟨#[]⟩, Value.string ⟨#[]⟩, Value.int IntKind.i64 0], .int .i64 5, .int .i64 3]) ∧ Below W.heap.size W w') := fun W => read_of (o := zeroO) (by kernel_rfl) (by decide) W
  have C5 : Hid (∀ W, Calls Tryd.prog 9 #[.string ⟨#[103, 105, 118, 101]⟩] W fun e w' => e = .returned (.tuple #[.agg #[Value.int IntKind.i64 0, Value.string ⟨#[]⟩, Value.string ⟨#[]⟩, Value.string ⟨#[]⟩, Value.int IntKind.i64 0], .int .i64 4, .int .i64 2]) ∧ Below W.heap.size W w') := fun W => read_of (o := zeroO) (by kernel_rfl) (by decide) W
  have C6 : Hid (∀ W, Tab W → Calls Tryd.prog 7 #[.agg #[Value.int IntKind.i64 3, Value.string ⟨#[]⟩, Value.string ⟨#[]⟩, Value.string ⟨#[]⟩, Value.int IntKind.i64 0]] W fun e w' => e = .returned (.tuple #[.string ⟨#[]⟩, .int .i64 2]) ∧ Below W.heap.size W w') := fun W hW => write_of (o := ⟨3, ⟨#[]⟩, ⟨#[]⟩, ⟨#[]⟩, 0⟩) (by kernel_rfl) (by decide) (by decide) (by decide) (by decide) (by decide) W hW
  have heq : ∀ W' : World, (binOp .eql 23 (.agg #[Value.int IntKind.i64 2, Value.string ⟨#[99, 49]⟩, Value.string ⟨#[101]⟩, Value.string ⟨#[117]⟩, Value.int IntKind.i64 0]) (.agg #[Value.int IntKind.i64 2, Value.string ⟨#[99, 49]⟩, Value.string ⟨#[101]⟩, Value.string ⟨#[117]⟩, Value.int IntKind.i64 0])).run Tryd.prog W' = .ok (.bool true) W' := fun W' => by have h := eqOrdB o0 o0 W'; rw [same_self] at h; exact h
  have hm1 : mayO ⟨2, ⟨#[99, 49]⟩, ⟨#[101]⟩, ⟨#[117]⟩, 0⟩ = true := by kernel_rfl
  have hm2 : mayO ⟨0, ⟨#[]⟩, ⟨#[]⟩, ⟨#[]⟩, 0⟩ = false := by kernel_rfl
  have hc1 : chgO 2 = true := rfl
  have hc2 : chgO 7 = false := rfl
  go_enter Tryd.func6, Tryd.ntmps6
  go_upto_region 2 with fail
  obtain ⟨w1, hw1⟩ : ∃ w1, w1 = w.alloc (.cells #[Value.int IntKind.i64 2, Value.string ⟨#[99, 49]⟩, Value.string ⟨#[101]⟩, Value.string ⟨#[117]⟩, Value.int IntKind.i64 0] 23) := ⟨_, rfl⟩
  rw [← hw1]
  have HB1 : Hid (Below w.heap.size w w1) := by show Below _ _ _; rw [hw1]; exact below_alloc (Below.refl _ _) _
  have HO1 : Hid (w1.heap[w.heap.size]? = some (Obj.cells #[Value.int IntKind.i64 2, Value.string ⟨#[99, 49]⟩, Value.string ⟨#[101]⟩, Value.string ⟨#[117]⟩, Value.int IntKind.i64 0] 23 (0, 0))) := by show _ = _; rw [hw1]; exact blk_new w _
  have hlt1 : w.heap.size < w1.heap.size := blk_lt HO1.out
  clear hw1
  have x0 : w1.cell? ⟨w.heap.size, 0, none⟩ = some (Value.int IntKind.i64 2) := blk_cell HO1.out 0
  have x1 : w1.cell? ⟨w.heap.size, 1, none⟩ = some (Value.string ⟨#[99, 49]⟩) := blk_cell HO1.out 1
  have x2 : w1.cell? ⟨w.heap.size, 2, none⟩ = some (Value.string ⟨#[101]⟩) := blk_cell HO1.out 2
  have x3 : w1.cell? ⟨w.heap.size, 3, none⟩ = some (Value.string ⟨#[117]⟩) := blk_cell HO1.out 3
  have x4 : w1.cell? ⟨w.heap.size, 4, none⟩ = some (Value.int IntKind.i64 0) := blk_cell HO1.out 4
  go_upto_region 3 with (go_at_call 7; refine (C1.out _ (tab_below HT.out HB1.out)).mono ?_; rintro e w2 ⟨rfl, hb2⟩; have HB2 := Lib.hid (HB1.out.trans (hb2.mono HB1.out.size)); have HO2 := Lib.hid ((hb2.block w.heap.size hlt1).trans HO1.out); clear hb2)
  clear x0 x1 x2 x3 x4
  go_upto_region 4 with (go_at_call 9; refine (C2.out _).mono ?_; rintro e w3 ⟨rfl, hb3⟩; have HB3 := Lib.hid (HB2.out.trans (hb3.mono HB2.out.size)); have HO3 := Lib.hid ((hb3.block w.heap.size (blk_lt HO2.out)).trans HO2.out); clear hb3)
  obtain ⟨w4, hw4⟩ : ∃ w4, w4 = w3.alloc (.cells #[Value.int IntKind.i64 2, Value.string ⟨#[99, 49]⟩, Value.string ⟨#[101]⟩, Value.string ⟨#[117]⟩, Value.int IntKind.i64 0] 23) := ⟨_, rfl⟩
  rw [← hw4]
  have HB4 : Hid (Below w.heap.size w w4) := by show Below _ _ _; rw [hw4]; exact below_alloc HB3.out _
  have HP4 : Hid (w4.heap[w3.heap.size]? = some (Obj.cells #[Value.int IntKind.i64 2, Value.string ⟨#[99, 49]⟩, Value.string ⟨#[101]⟩, Value.string ⟨#[117]⟩, Value.int IntKind.i64 0] 23 (0, 0))) := by show _ = _; rw [hw4]; exact blk_new w3 _
  have HO4 : Hid (w4.heap[w.heap.size]? = some (Obj.cells #[Value.int IntKind.i64 2, Value.string ⟨#[99, 49]⟩, Value.string ⟨#[101]⟩, Value.string ⟨#[117]⟩, Value.int IntKind.i64 0] 23 (0, 0))) := by show _ = _; rw [hw4]; exact blk_alloc HO3.out _
  clear hw4
  generalize w3.heap.size = bp at *
  go_upto_region 5 with (go_at_call 9; refine (C3.out _).mono ?_; rintro e w5 ⟨rfl, hb⟩; have HB5 := Lib.hid (HB4.out.trans (hb.mono HB4.out.size)); have HO5 := Lib.hid ((hb.block w.heap.size (blk_lt HO4.out)).trans HO4.out); have HP5 := Lib.hid ((hb.block bp (blk_lt HP4.out)).trans HP4.out); clear hb)
  obtain ⟨w6, hw6⟩ : ∃ w6, w6 = w5.alloc (.cells #[Value.int IntKind.i64 0, Value.string ⟨#[]⟩, Value.string ⟨#[]⟩, Value.string ⟨#[]⟩, Value.int IntKind.i64 0] 23) := ⟨_, rfl⟩
  rw [← hw6]
  have HB6 : Hid (Below w.heap.size w w6) := by show Below _ _ _; rw [hw6]; exact below_alloc HB5.out _
  have HO6 : Hid (w6.heap[w.heap.size]? = some (Obj.cells #[Value.int IntKind.i64 2, Value.string ⟨#[99, 49]⟩, Value.string ⟨#[101]⟩, Value.string ⟨#[117]⟩, Value.int IntKind.i64 0] 23 (0, 0))) := by show _ = _; rw [hw6]; exact blk_alloc HO5.out _
  have HP6 : Hid (w6.heap[bp]? = some (Obj.cells #[Value.int IntKind.i64 2, Value.string ⟨#[99, 49]⟩, Value.string ⟨#[101]⟩, Value.string ⟨#[117]⟩, Value.int IntKind.i64 0] 23 (0, 0))) := by show _ = _; rw [hw6]; exact blk_alloc HP5.out _
  clear hw6
  generalize w5.heap.size = bx6 at *
  go_upto_region 6 with (go_at_call 9; refine (C4.out _).mono ?_; rintro e w7 ⟨rfl, hb⟩; have HB7 := Lib.hid (HB6.out.trans (hb.mono HB6.out.size)); have HO7 := Lib.hid ((hb.block w.heap.size (blk_lt HO6.out)).trans HO6.out); have HP7 := Lib.hid ((hb.block bp (blk_lt HP6.out)).trans HP6.out); clear hb)
  obtain ⟨w8, hw8⟩ : ∃ w8, w8 = w7.alloc (.cells #[Value.int IntKind.i64 0, Value.string ⟨#[]⟩, Value.string ⟨#[]⟩, Value.string ⟨#[]⟩, Value.int IntKind.i64 0] 23) := ⟨_, rfl⟩
  rw [← hw8]
  have HB8 : Hid (Below w.heap.size w w8) := by show Below _ _ _; rw [hw8]; exact below_alloc HB7.out _
  have HO8 : Hid (w8.heap[w.heap.size]? = some (Obj.cells #[Value.int IntKind.i64 2, Value.string ⟨#[99, 49]⟩, Value.string ⟨#[101]⟩, Value.string ⟨#[117]⟩, Value.int IntKind.i64 0] 23 (0, 0))) := by show _ = _; rw [hw8]; exact blk_alloc HO7.out _
  have HP8 : Hid (w8.heap[bp]? = some (Obj.cells #[Value.int IntKind.i64 2, Value.string ⟨#[99, 49]⟩, Value.string ⟨#[101]⟩, Value.string ⟨#[117]⟩, Value.int IntKind.i64 0] 23 (0, 0))) := by show _ = _; rw [hw8]; exact blk_alloc HP7.out _
  clear hw8
  generalize w7.heap.size = bx8 at *
  go_upto_region 7 with (go_at_call 9; refine (C5.out _).mono ?_; rintro e w9 ⟨rfl, hb⟩; have HB9 := Lib.hid (HB8.out.trans (hb.mono HB8.out.size)); have HO9 := Lib.hid ((hb.block w.heap.size (blk_lt HO8.out)).trans HO8.out); have HP9 := Lib.hid ((hb.block bp (blk_lt HP8.out)).trans HP8.out); clear hb)
  obtain ⟨w10, hw10⟩ : ∃ w10, w10 = w9.alloc (.cells #[Value.int IntKind.i64 0, Value.string ⟨#[]⟩, Value.string ⟨#[]⟩, Value.string ⟨#[]⟩, Value.int IntKind.i64 0] 23) := ⟨_, rfl⟩
  rw [← hw10]
  have HB10 : Hid (Below w.heap.size w w10) := by show Below _ _ _; rw [hw10]; exact below_alloc HB9.out _
  have HO10 : Hid (w10.heap[w.heap.size]? = some (Obj.cells #[Value.int IntKind.i64 2, Value.string ⟨#[99, 49]⟩, Value.string ⟨#[101]⟩, Value.string ⟨#[117]⟩, Value.int IntKind.i64 0] 23 (0, 0))) := by show _ = _; rw [hw10]; exact blk_alloc HO9.out _
  have HP10 : Hid (w10.heap[bp]? = some (Obj.cells #[Value.int IntKind.i64 2, Value.string ⟨#[99, 49]⟩, Value.string ⟨#[101]⟩, Value.string ⟨#[117]⟩, Value.int IntKind.i64 0] 23 (0, 0))) := by show _ = _; rw [hw10]; exact blk_alloc HP9.out _
  clear hw10
  generalize w9.heap.size = bx10 at *
  go_upto_region 8 with (go_at_call 7; refine (C6.out _ (tab_below HT.out HB10.out)).mono ?_; rintro e w11 ⟨rfl, hb⟩; have HB11 := Lib.hid (HB10.out.trans (hb.mono HB10.out.size)); have HO11 := Lib.hid ((hb.block w.heap.size (blk_lt HO10.out)).trans HO10.out); have HP11 := Lib.hid ((hb.block bp (blk_lt HP10.out)).trans HP10.out); clear hb)
  have x0 : w11.cell? ⟨w.heap.size, 0, none⟩ = some (Value.int IntKind.i64 2) := blk_cell HO11.out 0
  have x1 : w11.cell? ⟨w.heap.size, 1, none⟩ = some (Value.string ⟨#[99, 49]⟩) := blk_cell HO11.out 1
  have x2 : w11.cell? ⟨w.heap.size, 2, none⟩ = some (Value.string ⟨#[101]⟩) := blk_cell HO11.out 2
  have x3 : w11.cell? ⟨w.heap.size, 3, none⟩ = some (Value.string ⟨#[117]⟩) := blk_cell HO11.out 3
  have x4 : w11.cell? ⟨w.heap.size, 4, none⟩ = some (Value.int IntKind.i64 0) := blk_cell HO11.out 4
  have y0 : w11.cell? ⟨bp, 0, none⟩ = some (Value.int IntKind.i64 2) := blk_cell HP11.out 0
  have y1 : w11.cell? ⟨bp, 1, none⟩ = some (Value.string ⟨#[99, 49]⟩) := blk_cell HP11.out 1
  have y2 : w11.cell? ⟨bp, 2, none⟩ = some (Value.string ⟨#[101]⟩) := blk_cell HP11.out 2
  have y3 : w11.cell? ⟨bp, 3, none⟩ = some (Value.string ⟨#[117]⟩) := blk_cell HP11.out 3
  have y4 : w11.cell? ⟨bp, 4, none⟩ = some (Value.int IntKind.i64 0) := blk_cell HP11.out 4
  have HB := HB11
  have HO := HO11
  go_wp2_with (first
    | (go_at_call 11; refine (may_gen _ _ _ _ _ (by decide) (by decide) (by decide) _).mono ?_; rintro e w12 ⟨rfl, hb⟩; have HB := Lib.hid (HB.out.trans (hb.mono HB.out.size)); have HO := Lib.hid ((hb.block w.heap.size (blk_lt HO.out)).trans HO.out); clear hb; have z0 : w12.cell? ⟨w.heap.size, 0, none⟩ = some (Value.int IntKind.i64 2) := blk_cell HO.out 0; have z1 : w12.cell? ⟨w.heap.size, 1, none⟩ = some (Value.string ⟨#[99, 49]⟩) := blk_cell HO.out 1; have z2 : w12.cell? ⟨w.heap.size, 2, none⟩ = some (Value.string ⟨#[101]⟩) := blk_cell HO.out 2; have z3 : w12.cell? ⟨w.heap.size, 3, none⟩ = some (Value.string ⟨#[117]⟩) := blk_cell HO.out 3; have z4 : w12.cell? ⟨w.heap.size, 4, none⟩ = some (Value.int IntKind.i64 0) := blk_cell HO.out 4)
    | (go_at_call 12; refine (chg_gen _ _ _ _ _ _).mono ?_; rintro e w14 ⟨rfl, hb⟩; have HB := Lib.hid (HB.out.trans (hb.mono HB.out.size)); clear hb))
  go_ret
  exact ⟨rfl, HB.out⟩
end Go.Proofs.YtdphomiljkclbaaDoor
