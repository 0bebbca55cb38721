/- Lemmas and contracts for the functions of one layer of the program, used by the law's proof. No conditions beyond those typed. -/
import Derived.Test.YtdphomiljkclbaaDoorOrdI
namespace Go.Proofs.YtdphomiljkclbaaDoor
set_option linter.unusedVariables false
set_option linter.unusedSimpArgs false
open Go.RowKit Go.Proofs.YtdphomiljkclbaaDoorW.PrintWords Go.Proofs.YtdphomiljkclbaaDoorW.PrintLast Go.Proofs.YtdphomiljkclbaaDoorW.PrintMore Go.Proofs.YtdphomiljkclbaaDoor.P

set_option maxHeartbeats 4000000 in
set_option maxRecDepth 100000 in
theorem OrderBack_any (o : Ord) (s : ByteArray) (h0 : -9223372036854775808 ≤ o.n) (h1 : o.n ≤ 9223372036854775807) (w : World) (ht : Tab w) :
    Calls Tryd.prog 4 #[ordV o, .string s] w fun e w' => e = .returned (.bool true) ∧ Below w.heap.size w w' := by
  have hu := Tryd.underlying23
  have HT := Lib.hid ht
  have H0 := Lib.hid h0
  have H1 := Lib.hid h1
  clear ht h0 h1
  have hra := Lib.hid (read_any s)
  obtain ⟨p, at_, er, hr⟩ : ∃ p at_ er, readR s = (p, at_, er) := ⟨_, _, _, rfl⟩
  have HRA : Hid ((er = 0 ∧ mayO p = true) ∨ (er ≠ 0 ∧ p = zeroO ∧ 0 ≤ at_ ∧ at_ ≤ s.size)) := by have h := hra.out; rw [hr] at h; exact h
  have HR := Lib.hid hr
  clear hra hr
  go_enter Tryd.func4, Tryd.ntmps4
  obtain ⟨W, hW⟩ : ∃ W, W = w.alloc (.cells #[Value.int IntKind.i64 o.k, Value.string o.c, Value.string o.e, Value.string o.u, Value.int IntKind.i64 o.n] 23) := ⟨_, rfl⟩
  have HB0 : Hid (Below w.heap.size w W) := by show Below _ _ _; rw [hW]; exact boxO w o
  have HO0 : Hid (W.heap[w.heap.size]? = some (Obj.cells #[Value.int IntKind.i64 o.k, Value.string o.c, Value.string o.e, Value.string o.u, Value.int IntKind.i64 o.n] 23 (0, 0))) := by show _ = _; rw [hW]; exact blk_new w _
  have hW2 := hW.symm
  clear hW
  go_upto_region 3 with (go_at_call 6; refine (awake_any _ (tab_below HT.out HB0.out)).mono ?_; rintro e w1 ⟨rfl, hb⟩; have HB1 := Lib.hid (HB0.out.trans (hb.mono HB0.out.size)); have HO1 := Lib.hid ((hb.block w.heap.size (blk_lt HO0.out)).trans HO0.out); clear hb)
  clear hW2
  have y0 : w1.cell? ⟨w.heap.size, 0, none⟩ = some (.int .i64 o.k) := blk_cell HO1.out 0
  have y1 : w1.cell? ⟨w.heap.size, 1, none⟩ = some (.string o.c) := blk_cell HO1.out 1
  have y2 : w1.cell? ⟨w.heap.size, 2, none⟩ = some (.string o.e) := blk_cell HO1.out 2
  have y3 : w1.cell? ⟨w.heap.size, 3, none⟩ = some (.string o.u) := blk_cell HO1.out 3
  have y4 : w1.cell? ⟨w.heap.size, 4, none⟩ = some (.int .i64 o.n) := blk_cell HO1.out 4
  by_cases g4 : (1024 : Int) < (s.size : Int)
  · go_wp2
    go_ret
    exact ⟨rfl, HB1.out⟩
  by_cases g1 : (100 : Int) < (o.c.size : Int)
  · go_wp2
    go_ret
    exact ⟨rfl, HB1.out⟩
  by_cases g2 : (100 : Int) < (o.e.size : Int)
  · go_wp2
    go_ret
    exact ⟨rfl, HB1.out⟩
  by_cases g3 : (100 : Int) < (o.u.size : Int)
  · go_wp2
    go_ret
    exact ⟨rfl, HB1.out⟩
  have hrd := Lib.hid (fun W' => read_of HR.out (by omega) W')
  cases hM : mayO o
  · have hw := Lib.hid (write_not hM (by omega) (by omega) (by omega) H0.out H1.out w1 (tab_below HT.out HB1.out))
    have hmn := Lib.hid (fun W' => may_of hM (by omega) (by omega) (by omega) W')
    go_upto_region 12 with (first
      | (go_at_call 7; refine (hw.out).mono ?_; rintro e w2 ⟨rfl, hb⟩; have HB2 := Lib.hid (HB1.out.trans (hb.mono HB1.out.size)); have HO2 := Lib.hid ((hb.block w.heap.size (blk_lt HO1.out)).trans HO1.out); clear hb; obtain ⟨x0, x1, x2, x3, x4, _, _, _, _, _⟩ := resF HO2.out)
      | (go_at_call 11; refine (hmn.out _).mono ?_; rintro e w3 ⟨rfl, hb⟩; have HB3 := Lib.hid (HB2.out.trans (hb.mono HB2.out.size)); clear hb))
    clear y0 y1 y2 y3 y4 x0 x1 x2 x3 x4
    go_upto_region 13 with (go_at_call 9; refine (hrd.out _).mono ?_; rintro e v3 ⟨rfl, hb⟩; have HV3 := Lib.hid (HB3.out.trans (hb.mono HB3.out.size)); clear hb)
    obtain ⟨v4, hv4⟩ : ∃ v4, v4 = v3.alloc (.cells #[Value.int IntKind.i64 p.k, Value.string p.c, Value.string p.e, Value.string p.u, Value.int IntKind.i64 p.n] 23) := ⟨_, rfl⟩
    rw [← hv4]
    have HV4 : Hid (Below w.heap.size w v4) := by show Below _ _ _; rw [hv4]; exact below_alloc HV3.out _
    have HP4 : Hid (v4.heap[v3.heap.size]? = some (Obj.cells #[Value.int IntKind.i64 p.k, Value.string p.c, Value.string p.e, Value.string p.u, Value.int IntKind.i64 p.n] 23 (0, 0))) := by show _ = _; rw [hv4]; exact blk_new v3 _
    clear hv4
    generalize v3.heap.size = bp at *
    rcases HRA.out with ⟨he, hMp⟩ | ⟨he, hpz, hge, hle⟩
    · subst he
      obtain ⟨z0, z1, z2, z3, z4, _, _, _, _, _⟩ := resF HP4.out
      have hw2 := Lib.hid (write_may hMp v4 (tab_below HT.out HV4.out))
      have rb2 := Lib.hid (read_back p hMp)
      have hbs2 := body_size hMp
      obtain ⟨t2, ht2⟩ : ∃ t2, t2 = body p ++ ⟨#[59]⟩ := ⟨_, rfl⟩
      have hts2 : t2.size = (body p).size + 1 := by rw [ht2, ByteArray.size_append]; rfl
      rw [← ht2] at hw2 rb2
      have hrd2 := Lib.hid (fun W' => read_of rb2.out (by omega) W')
      clear ht2 hts2 hbs2
      go_upto_region 16 with (go_at_call 7; refine (hw2.out).mono ?_; rintro e v5 ⟨rfl, hb⟩; have HV5 := Lib.hid (HV4.out.trans (hb.mono HV4.out.size)); have HP5 := Lib.hid ((hb.block bp (blk_lt HP4.out)).trans HP4.out); clear hb)
      clear z0 z1 z2 z3 z4
      go_upto_region 17 with (go_at_call 9; refine (hrd2.out _).mono ?_; rintro e v6 ⟨rfl, hb⟩; have HV6 := Lib.hid (HV5.out.trans (hb.mono HV5.out.size)); have HP6 := Lib.hid ((hb.block bp (blk_lt HP5.out)).trans HP5.out); clear hb)
      obtain ⟨v7, hv7⟩ : ∃ v7, v7 = v6.alloc (.cells #[Value.int IntKind.i64 p.k, Value.string p.c, Value.string p.e, Value.string p.u, Value.int IntKind.i64 p.n] 23) := ⟨_, rfl⟩
      rw [← hv7]
      have HV7 : Hid (Below w.heap.size w v7) := by show Below _ _ _; rw [hv7]; exact below_alloc HV6.out _
      have HP7 : Hid (v7.heap[bp]? = some (Obj.cells #[Value.int IntKind.i64 p.k, Value.string p.c, Value.string p.e, Value.string p.u, Value.int IntKind.i64 p.n] 23 (0, 0))) := by show _ = _; rw [hv7]; exact blk_alloc HP6.out _
      have HQ7 : Hid (v7.heap[v6.heap.size]? = some (Obj.cells #[Value.int IntKind.i64 p.k, Value.string p.c, Value.string p.e, Value.string p.u, Value.int IntKind.i64 p.n] 23 (0, 0))) := by show _ = _; rw [hv7]; exact blk_new v6 _
      clear hv7
      generalize v6.heap.size = bq at *
      obtain ⟨z0, z1, z2, z3, z4, _, _, _, _, _⟩ := resF HP7.out
      obtain ⟨q0, q1, q2, q3, q4, _, _, _, _, _⟩ := resF HQ7.out
      have heq : ∀ W' : World, (binOp .eql 23 (.agg #[Value.int IntKind.i64 p.k, Value.string p.c, Value.string p.e, Value.string p.u, Value.int IntKind.i64 p.n]) (.agg #[Value.int IntKind.i64 p.k, Value.string p.c, Value.string p.e, Value.string p.u, Value.int IntKind.i64 p.n])).run Tryd.prog W' = .ok (.bool true) W' := fun W' => by have h := eqOrdB p p W'; rw [same_self] at h; exact h
      have hmb := mayO_bounds hMp
      have hmy := Lib.hid (fun W' => may_of hMp (by omega) (by omega) (by omega) W')
      clear hmb
      go_wp2_with (go_at_call 11; refine (hmy.out _).mono ?_; rintro e v8 ⟨rfl, hb⟩; have HV8 := Lib.hid (HV7.out.trans (hb.mono HV7.out.size)); clear hb)
      go_ret
      exact ⟨rfl, HV8.out⟩
    · subst hpz
      obtain ⟨z0, z1, z2, z3, z4, _, _, _, _, _⟩ := resF HP4.out
      have heqz : ∀ W' : World, (binOp .eql 23 (.agg #[Value.int IntKind.i64 zeroO.k, Value.string zeroO.c, Value.string zeroO.e, Value.string zeroO.u, Value.int IntKind.i64 zeroO.n]) (.agg #[Value.int IntKind.i64 0, Value.string ⟨#[]⟩, Value.string ⟨#[]⟩, Value.string ⟨#[]⟩, Value.int IntKind.i64 0])).run Tryd.prog W' = .ok (.bool true) W' := fun W' => by have h := eqOrdB zeroO zeroO W'; rw [same_self] at h; exact h
      go_wp2_with fail
      go_ret
      exact ⟨rfl, HV4.out⟩
  · have hw := Lib.hid (write_may hM w1 (tab_below HT.out HB1.out))
    have rb := Lib.hid (read_back o hM)
    have hbs := body_size hM
    obtain ⟨t, ht⟩ : ∃ t, t = body o ++ ⟨#[59]⟩ := ⟨_, rfl⟩
    have hts : t.size = (body o).size + 1 := by rw [ht, ByteArray.size_append]; rfl
    rw [← ht] at hw rb
    have hrb := Lib.hid (fun W' => read_of rb.out (by omega) W')
    clear ht hts hbs
    go_upto_region 7 with (go_at_call 7; refine (hw.out).mono ?_; rintro e w2 ⟨rfl, hb⟩; have HB2 := Lib.hid (HB1.out.trans (hb.mono HB1.out.size)); have HO2 := Lib.hid ((hb.block w.heap.size (blk_lt HO1.out)).trans HO1.out); clear hb)
    clear y0 y1 y2 y3 y4
    go_upto_region 8 with (go_at_call 9; refine (hrb.out _).mono ?_; rintro e w3 ⟨rfl, hb⟩; have HB3 := Lib.hid (HB2.out.trans (hb.mono HB2.out.size)); have HO3 := Lib.hid ((hb.block w.heap.size (blk_lt HO2.out)).trans HO2.out); clear hb)
    obtain ⟨w4, hw4⟩ : ∃ w4, w4 = w3.alloc (.cells #[Value.int IntKind.i64 o.k, Value.string o.c, Value.string o.e, Value.string o.u, Value.int IntKind.i64 o.n] 23) := ⟨_, rfl⟩
    rw [← hw4]
    have HB4 : Hid (Below w.heap.size w w4) := by show Below _ _ _; rw [hw4]; exact below_alloc HB3.out _
    have HO4 : Hid (w4.heap[w.heap.size]? = some (Obj.cells #[Value.int IntKind.i64 o.k, Value.string o.c, Value.string o.e, Value.string o.u, Value.int IntKind.i64 o.n] 23 (0, 0))) := by show _ = _; rw [hw4]; exact blk_alloc HO3.out _
    have HP4 : Hid (w4.heap[w3.heap.size]? = some (Obj.cells #[Value.int IntKind.i64 o.k, Value.string o.c, Value.string o.e, Value.string o.u, Value.int IntKind.i64 o.n] 23 (0, 0))) := by show _ = _; rw [hw4]; exact blk_new w3 _
    clear hw4
    generalize w3.heap.size = b3 at *
    obtain ⟨x0, x1, x2, x3, x4, _, _, _, _, _⟩ := resF HO4.out
    obtain ⟨y0, y1, y2, y3, y4, _, _, _, _, _⟩ := resF HP4.out
    have hne : ∀ W' : World, (binOp .neq 23 (.agg #[Value.int IntKind.i64 o.k, Value.string o.c, Value.string o.e, Value.string o.u, Value.int IntKind.i64 o.n]) (.agg #[Value.int IntKind.i64 o.k, Value.string o.c, Value.string o.e, Value.string o.u, Value.int IntKind.i64 o.n])).run Tryd.prog W' = .ok (.bool false) W' := fun W' => by have h := neOrd o o W'; rw [same_self] at h; exact h
    go_upto_region 12 with fail
    clear x0 x1 x2 x3 x4 y0 y1 y2 y3 y4 hne HP4
    go_upto_region 13 with (go_at_call 9; refine (hrd.out _).mono ?_; rintro e v3 ⟨rfl, hb⟩; have HV3 := Lib.hid (HB4.out.trans (hb.mono HB4.out.size)); clear hb)
    obtain ⟨v4, hv4⟩ : ∃ v4, v4 = v3.alloc (.cells #[Value.int IntKind.i64 p.k, Value.string p.c, Value.string p.e, Value.string p.u, Value.int IntKind.i64 p.n] 23) := ⟨_, rfl⟩
    rw [← hv4]
    have HV4 : Hid (Below w.heap.size w v4) := by show Below _ _ _; rw [hv4]; exact below_alloc HV3.out _
    have HP4 : Hid (v4.heap[v3.heap.size]? = some (Obj.cells #[Value.int IntKind.i64 p.k, Value.string p.c, Value.string p.e, Value.string p.u, Value.int IntKind.i64 p.n] 23 (0, 0))) := by show _ = _; rw [hv4]; exact blk_new v3 _
    clear hv4
    generalize v3.heap.size = bp at *
    rcases HRA.out with ⟨he, hMp⟩ | ⟨he, hpz, hge, hle⟩
    · subst he
      obtain ⟨z0, z1, z2, z3, z4, _, _, _, _, _⟩ := resF HP4.out
      have hw2 := Lib.hid (write_may hMp v4 (tab_below HT.out HV4.out))
      have rb2 := Lib.hid (read_back p hMp)
      have hbs2 := body_size hMp
      obtain ⟨t2, ht2⟩ : ∃ t2, t2 = body p ++ ⟨#[59]⟩ := ⟨_, rfl⟩
      have hts2 : t2.size = (body p).size + 1 := by rw [ht2, ByteArray.size_append]; rfl
      rw [← ht2] at hw2 rb2
      have hrd2 := Lib.hid (fun W' => read_of rb2.out (by omega) W')
      clear ht2 hts2 hbs2
      go_upto_region 16 with (go_at_call 7; refine (hw2.out).mono ?_; rintro e v5 ⟨rfl, hb⟩; have HV5 := Lib.hid (HV4.out.trans (hb.mono HV4.out.size)); have HP5 := Lib.hid ((hb.block bp (blk_lt HP4.out)).trans HP4.out); clear hb)
      clear z0 z1 z2 z3 z4
      go_upto_region 17 with (go_at_call 9; refine (hrd2.out _).mono ?_; rintro e v6 ⟨rfl, hb⟩; have HV6 := Lib.hid (HV5.out.trans (hb.mono HV5.out.size)); have HP6 := Lib.hid ((hb.block bp (blk_lt HP5.out)).trans HP5.out); clear hb)
      obtain ⟨v7, hv7⟩ : ∃ v7, v7 = v6.alloc (.cells #[Value.int IntKind.i64 p.k, Value.string p.c, Value.string p.e, Value.string p.u, Value.int IntKind.i64 p.n] 23) := ⟨_, rfl⟩
      rw [← hv7]
      have HV7 : Hid (Below w.heap.size w v7) := by show Below _ _ _; rw [hv7]; exact below_alloc HV6.out _
      have HP7 : Hid (v7.heap[bp]? = some (Obj.cells #[Value.int IntKind.i64 p.k, Value.string p.c, Value.string p.e, Value.string p.u, Value.int IntKind.i64 p.n] 23 (0, 0))) := by show _ = _; rw [hv7]; exact blk_alloc HP6.out _
      have HQ7 : Hid (v7.heap[v6.heap.size]? = some (Obj.cells #[Value.int IntKind.i64 p.k, Value.string p.c, Value.string p.e, Value.string p.u, Value.int IntKind.i64 p.n] 23 (0, 0))) := by show _ = _; rw [hv7]; exact blk_new v6 _
      clear hv7
      generalize v6.heap.size = bq at *
      obtain ⟨z0, z1, z2, z3, z4, _, _, _, _, _⟩ := resF HP7.out
      obtain ⟨q0, q1, q2, q3, q4, _, _, _, _, _⟩ := resF HQ7.out
      have heq : ∀ W' : World, (binOp .eql 23 (.agg #[Value.int IntKind.i64 p.k, Value.string p.c, Value.string p.e, Value.string p.u, Value.int IntKind.i64 p.n]) (.agg #[Value.int IntKind.i64 p.k, Value.string p.c, Value.string p.e, Value.string p.u, Value.int IntKind.i64 p.n])).run Tryd.prog W' = .ok (.bool true) W' := fun W' => by have h := eqOrdB p p W'; rw [same_self] at h; exact h
      have hmb := mayO_bounds hMp
      have hmy := Lib.hid (fun W' => may_of hMp (by omega) (by omega) (by omega) W')
      clear hmb
      go_wp2_with (go_at_call 11; refine (hmy.out _).mono ?_; rintro e v8 ⟨rfl, hb⟩; have HV8 := Lib.hid (HV7.out.trans (hb.mono HV7.out.size)); clear hb)
      go_ret
      exact ⟨rfl, HV8.out⟩
    · subst hpz
      obtain ⟨z0, z1, z2, z3, z4, _, _, _, _, _⟩ := resF HP4.out
      have heqz : ∀ W' : World, (binOp .eql 23 (.agg #[Value.int IntKind.i64 zeroO.k, Value.string zeroO.c, Value.string zeroO.e, Value.string zeroO.u, Value.int IntKind.i64 zeroO.n]) (.agg #[Value.int IntKind.i64 0, Value.string ⟨#[]⟩, Value.string ⟨#[]⟩, Value.string ⟨#[]⟩, Value.int IntKind.i64 0])).run Tryd.prog W' = .ok (.bool true) W' := fun W' => by have h := eqOrdB zeroO zeroO W'; rw [same_self] at h; exact h
      go_wp2_with fail
      go_ret
      exact ⟨rfl, HV4.out⟩
end Go.Proofs.YtdphomiljkclbaaDoor
