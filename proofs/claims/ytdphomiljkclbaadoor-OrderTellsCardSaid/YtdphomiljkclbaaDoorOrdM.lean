/- Lemmas and contracts for the functions of one layer of the document's answer, used by the law's proof. No conditions beyond those typed. -/
import Derived.Test.YtdphomiljkclbaaDoorOrdL
namespace Go.Proofs.YtdphomiljkclbaaDoor
set_option linter.unusedVariables false
set_option linter.unusedSimpArgs false
open Go.RowKit Go.Proofs.YtdphomiljkclbaaDoorW.PrintWords Go.Proofs.YtdphomiljkclbaaDoorW.PrintLast Go.Proofs.YtdphomiljkclbaaDoorW.PrintMore Go.Proofs.YtdphomiljkclbaaDoor.P

set_option maxHeartbeats 8000000 in
set_option maxRecDepth 100000 in
theorem R15Write_any (o : Ord) (hc : o.c.size ≤ 1000) (he : o.e.size ≤ 1000) (hus : o.u.size ≤ 1000) (w : World) :
    Calls Tryd.prog 8 #[ordV o] w fun e w' => e = .returned (.tuple #[.string (writeR o).1, .int .i64 (writeR o).2]) ∧ Below w.heap.size w w' := by
  have hu := Tryd.underlying29
  go_enter Tryd.func8, Tryd.ntmps8
  obtain ⟨W, hW⟩ : ∃ W, W = w.alloc (.cells #[Value.int IntKind.i64 o.k, Value.string o.c, Value.string o.e, Value.string o.u, Value.int IntKind.i64 o.n] 29) := ⟨_, rfl⟩
  have HB0 : Hid (Below w.heap.size w W) := by show Below _ _ _; rw [hW]; exact below_alloc (Below.refl _ _) _
  have HO0 : Hid (W.heap[w.heap.size]? = some (Obj.cells #[Value.int IntKind.i64 o.k, Value.string o.c, Value.string o.e, Value.string o.u, Value.int IntKind.i64 o.n] 29 (0, 0))) := by show _ = _; rw [hW]; exact blk_new w _
  have hW2 := hW.symm
  clear hW
  go_upto_region 1 with fail
  clear hW2
  have y0 : W.cell? ⟨w.heap.size, 0, none⟩ = some (.int .i64 o.k) := blk_cell HO0.out 0
  have y1 : W.cell? ⟨w.heap.size, 1, none⟩ = some (.string o.c) := blk_cell HO0.out 1
  have y2 : W.cell? ⟨w.heap.size, 2, none⟩ = some (.string o.e) := blk_cell HO0.out 2
  have y3 : W.cell? ⟨w.heap.size, 3, none⟩ = some (.string o.u) := blk_cell HO0.out 3
  have y4 : W.cell? ⟨w.heap.size, 4, none⟩ = some (.int .i64 o.n) := blk_cell HO0.out 4
  go_cut [4] from 8 to 15 (fun v4 wx => v4 = .bool (bareO o) ∧ Aside0 (Below w.heap.size w wx ∧ wx.heap[w.heap.size]? = some (Obj.cells #[Value.int IntKind.i64 o.k, Value.string o.c, Value.string o.e, Value.string o.u, Value.int IntKind.i64 o.n] 29 (0, 0))))
  case first =>
    cases h1 : emp o.e
    · have e1 : (o.e.toList == ([] : List UInt8)) = false := h1
      have hb : Hid (bareO o = false) := by show _ = _; unfold bareO; rw [h1]; rfl
      go_wp2_with fail
      go_meet
      exact ⟨by rw [hb.out], ⟨HB0.out, HO0.out⟩⟩
    · have e1 : (o.e.toList == ([] : List UInt8)) = true := h1
      have hb : Hid (bareO o = (o.n == 0)) := by show _ = _; unfold bareO; rw [h1]; rfl
      go_wp2_with fail
      go_meet
      exact ⟨by rw [hb.out], ⟨HB0.out, HO0.out⟩⟩
  case rest =>
    obtain ⟨rfl, HX⟩ := hcut
    rename World => w1
    clear y0 y1 y2 y3 y4
    go_upto_region 2 with fail
    have y0 : w1.cell? ⟨w.heap.size, 0, none⟩ = some (.int .i64 o.k) := blk_cell HX.out.2 0
    have y1 : w1.cell? ⟨w.heap.size, 1, none⟩ = some (.string o.c) := blk_cell HX.out.2 1
    have y2 : w1.cell? ⟨w.heap.size, 2, none⟩ = some (.string o.e) := blk_cell HX.out.2 2
    have y3 : w1.cell? ⟨w.heap.size, 3, none⟩ = some (.string o.u) := blk_cell HX.out.2 3
    have y4 : w1.cell? ⟨w.heap.size, 4, none⟩ = some (.int .i64 o.n) := blk_cell HX.out.2 4
    go_cut [5] from 16 to 26 (fun vv wx => vv = .bool (b5O o) ∧ Aside0 (Below w.heap.size w wx ∧ wx.heap[w.heap.size]? = some (Obj.cells #[Value.int IntKind.i64 o.k, Value.string o.c, Value.string o.e, Value.string o.u, Value.int IntKind.i64 o.n] 29 (0, 0))))
    case first =>
      cases hN : nameR o.c
      · have hb : Hid (b5O o = false) := by show _ = _; unfold b5O; rw [hN]; rfl
        have hnm : Hid (∀ W, Calls Tryd.prog 17 #[.string o.c] W fun e w' => e = .returned (.bool false) ∧ Below W.heap.size W w') := fun W => by have h := RName_any o.c W (by omega); rw [hN] at h; exact h
        clear hN
        go_wp2_with (go_at_call 17; refine (hnm.out _).mono ?_; rintro e wn ⟨rfl, hb⟩; have HN : Hid (Below w.heap.size w wn ∧ wn.heap[w.heap.size]? = some (Obj.cells #[Value.int IntKind.i64 o.k, Value.string o.c, Value.string o.e, Value.string o.u, Value.int IntKind.i64 o.n] 29 (0, 0))) := ⟨HX.out.1.trans (hb.mono HX.out.1.size), (hb.block w.heap.size (blk_lt HX.out.2)).trans HX.out.2⟩; clear hb; have z1 : wn.cell? ⟨w.heap.size, 1, none⟩ = some (.string o.c) := blk_cell HN.out.2 1; have z3 : wn.cell? ⟨w.heap.size, 3, none⟩ = some (.string o.u) := blk_cell HN.out.2 3)
        go_meet
        exact ⟨by rw [hb.out], ⟨HN.out⟩⟩
      · cases h1 : emp o.u
        · have e1 : (o.u.toList == ([] : List UInt8)) = false := h1
          have hb : Hid (b5O o = false) := by show _ = _; unfold b5O; rw [hN, h1]; rfl
          have hnm : Hid (∀ W, Calls Tryd.prog 17 #[.string o.c] W fun e w' => e = .returned (.bool true) ∧ Below W.heap.size W w') := fun W => by have h := RName_any o.c W (by omega); rw [hN] at h; exact h
          clear hN h1
          go_wp2_with (go_at_call 17; refine (hnm.out _).mono ?_; rintro e wn ⟨rfl, hb⟩; have HN : Hid (Below w.heap.size w wn ∧ wn.heap[w.heap.size]? = some (Obj.cells #[Value.int IntKind.i64 o.k, Value.string o.c, Value.string o.e, Value.string o.u, Value.int IntKind.i64 o.n] 29 (0, 0))) := ⟨HX.out.1.trans (hb.mono HX.out.1.size), (hb.block w.heap.size (blk_lt HX.out.2)).trans HX.out.2⟩; clear hb; have z1 : wn.cell? ⟨w.heap.size, 1, none⟩ = some (.string o.c) := blk_cell HN.out.2 1; have z3 : wn.cell? ⟨w.heap.size, 3, none⟩ = some (.string o.u) := blk_cell HN.out.2 3)
          go_meet
          exact ⟨by rw [hb.out], ⟨HN.out⟩⟩
        · have e1 : (o.u.toList == ([] : List UInt8)) = true := h1
          have hb : Hid (b5O o = bareO o) := by show _ = _; unfold b5O; rw [hN, h1]; rfl
          have hnm : Hid (∀ W, Calls Tryd.prog 17 #[.string o.c] W fun e w' => e = .returned (.bool true) ∧ Below W.heap.size W w') := fun W => by have h := RName_any o.c W (by omega); rw [hN] at h; exact h
          clear hN h1
          go_wp2_with (go_at_call 17; refine (hnm.out _).mono ?_; rintro e wn ⟨rfl, hb⟩; have HN : Hid (Below w.heap.size w wn ∧ wn.heap[w.heap.size]? = some (Obj.cells #[Value.int IntKind.i64 o.k, Value.string o.c, Value.string o.e, Value.string o.u, Value.int IntKind.i64 o.n] 29 (0, 0))) := ⟨HX.out.1.trans (hb.mono HX.out.1.size), (hb.block w.heap.size (blk_lt HX.out.2)).trans HX.out.2⟩; clear hb; have z1 : wn.cell? ⟨w.heap.size, 1, none⟩ = some (.string o.c) := blk_cell HN.out.2 1; have z3 : wn.cell? ⟨w.heap.size, 3, none⟩ = some (.string o.u) := blk_cell HN.out.2 3)
          go_meet
          exact ⟨by rw [hb.out], ⟨HN.out⟩⟩
    case rest =>
      obtain ⟨rfl, HX⟩ := hcut
      rename World => w2
      clear y0 y1 y2 y3 y4
      go_upto_region 3 with fail
      have y0 : w2.cell? ⟨w.heap.size, 0, none⟩ = some (.int .i64 o.k) := blk_cell HX.out.2 0
      have y1 : w2.cell? ⟨w.heap.size, 1, none⟩ = some (.string o.c) := blk_cell HX.out.2 1
      have y2 : w2.cell? ⟨w.heap.size, 2, none⟩ = some (.string o.e) := blk_cell HX.out.2 2
      have y3 : w2.cell? ⟨w.heap.size, 3, none⟩ = some (.string o.u) := blk_cell HX.out.2 3
      have y4 : w2.cell? ⟨w.heap.size, 4, none⟩ = some (.int .i64 o.n) := blk_cell HX.out.2 4
      go_cut [6] from 27 to 37 (fun vv wx => vv = .bool (b6O o) ∧ Aside0 (Below w.heap.size w wx ∧ wx.heap[w.heap.size]? = some (Obj.cells #[Value.int IntKind.i64 o.k, Value.string o.c, Value.string o.e, Value.string o.u, Value.int IntKind.i64 o.n] 29 (0, 0))))
      case first =>
        cases hN : nameR o.u
        · have hb : Hid (b6O o = false) := by show _ = _; unfold b6O; rw [hN]; rfl
          have hnm : Hid (∀ W, Calls Tryd.prog 17 #[.string o.u] W fun e w' => e = .returned (.bool false) ∧ Below W.heap.size W w') := fun W => by have h := RName_any o.u W (by omega); rw [hN] at h; exact h
          clear hN
          go_wp2_with (go_at_call 17; refine (hnm.out _).mono ?_; rintro e wn ⟨rfl, hb⟩; have HN : Hid (Below w.heap.size w wn ∧ wn.heap[w.heap.size]? = some (Obj.cells #[Value.int IntKind.i64 o.k, Value.string o.c, Value.string o.e, Value.string o.u, Value.int IntKind.i64 o.n] 29 (0, 0))) := ⟨HX.out.1.trans (hb.mono HX.out.1.size), (hb.block w.heap.size (blk_lt HX.out.2)).trans HX.out.2⟩; clear hb; have z1 : wn.cell? ⟨w.heap.size, 1, none⟩ = some (.string o.c) := blk_cell HN.out.2 1; have z3 : wn.cell? ⟨w.heap.size, 3, none⟩ = some (.string o.u) := blk_cell HN.out.2 3)
          go_meet
          exact ⟨by rw [hb.out], ⟨HN.out⟩⟩
        · cases h1 : emp o.c
          · have e1 : (o.c.toList == ([] : List UInt8)) = false := h1
            have hb : Hid (b6O o = false) := by show _ = _; unfold b6O; rw [hN, h1]; rfl
            have hnm : Hid (∀ W, Calls Tryd.prog 17 #[.string o.u] W fun e w' => e = .returned (.bool true) ∧ Below W.heap.size W w') := fun W => by have h := RName_any o.u W (by omega); rw [hN] at h; exact h
            clear hN h1
            go_wp2_with (go_at_call 17; refine (hnm.out _).mono ?_; rintro e wn ⟨rfl, hb⟩; have HN : Hid (Below w.heap.size w wn ∧ wn.heap[w.heap.size]? = some (Obj.cells #[Value.int IntKind.i64 o.k, Value.string o.c, Value.string o.e, Value.string o.u, Value.int IntKind.i64 o.n] 29 (0, 0))) := ⟨HX.out.1.trans (hb.mono HX.out.1.size), (hb.block w.heap.size (blk_lt HX.out.2)).trans HX.out.2⟩; clear hb; have z1 : wn.cell? ⟨w.heap.size, 1, none⟩ = some (.string o.c) := blk_cell HN.out.2 1; have z3 : wn.cell? ⟨w.heap.size, 3, none⟩ = some (.string o.u) := blk_cell HN.out.2 3)
            go_meet
            exact ⟨by rw [hb.out], ⟨HN.out⟩⟩
          · have e1 : (o.c.toList == ([] : List UInt8)) = true := h1
            have hb : Hid (b6O o = bareO o) := by show _ = _; unfold b6O; rw [hN, h1]; rfl
            have hnm : Hid (∀ W, Calls Tryd.prog 17 #[.string o.u] W fun e w' => e = .returned (.bool true) ∧ Below W.heap.size W w') := fun W => by have h := RName_any o.u W (by omega); rw [hN] at h; exact h
            clear hN h1
            go_wp2_with (go_at_call 17; refine (hnm.out _).mono ?_; rintro e wn ⟨rfl, hb⟩; have HN : Hid (Below w.heap.size w wn ∧ wn.heap[w.heap.size]? = some (Obj.cells #[Value.int IntKind.i64 o.k, Value.string o.c, Value.string o.e, Value.string o.u, Value.int IntKind.i64 o.n] 29 (0, 0))) := ⟨HX.out.1.trans (hb.mono HX.out.1.size), (hb.block w.heap.size (blk_lt HX.out.2)).trans HX.out.2⟩; clear hb; have z1 : wn.cell? ⟨w.heap.size, 1, none⟩ = some (.string o.c) := blk_cell HN.out.2 1; have z3 : wn.cell? ⟨w.heap.size, 3, none⟩ = some (.string o.u) := blk_cell HN.out.2 3)
            go_meet
            exact ⟨by rw [hb.out], ⟨HN.out⟩⟩
      case rest =>
        obtain ⟨rfl, HX⟩ := hcut
        rename World => w3
        clear y0 y1 y2 y3 y4
        go_upto_region 4 with fail
        have y0 : w3.cell? ⟨w.heap.size, 0, none⟩ = some (.int .i64 o.k) := blk_cell HX.out.2 0
        have y1 : w3.cell? ⟨w.heap.size, 1, none⟩ = some (.string o.c) := blk_cell HX.out.2 1
        have y2 : w3.cell? ⟨w.heap.size, 2, none⟩ = some (.string o.e) := blk_cell HX.out.2 2
        have y3 : w3.cell? ⟨w.heap.size, 3, none⟩ = some (.string o.u) := blk_cell HX.out.2 3
        have y4 : w3.cell? ⟨w.heap.size, 4, none⟩ = some (.int .i64 o.n) := blk_cell HX.out.2 4
        go_cut [7] from 38 to 48 (fun vv wx => vv = .bool (b7O o) ∧ Aside0 (Below w.heap.size w wx ∧ wx.heap[w.heap.size]? = some (Obj.cells #[Value.int IntKind.i64 o.k, Value.string o.c, Value.string o.e, Value.string o.u, Value.int IntKind.i64 o.n] 29 (0, 0))))
        case first =>
          cases h1 : emp o.c
          · have e1 : (o.c.toList == ([] : List UInt8)) = false := h1
            have hb : Hid (b7O o = false) := by show _ = _; unfold b7O; rw [h1]; rfl
            clear h1
            go_wp2_with fail
            go_meet
            exact ⟨by rw [hb.out], HX⟩
          · have e1 : (o.c.toList == ([] : List UInt8)) = true := h1
            cases h2 : emp o.u
            · have e2 : (o.u.toList == ([] : List UInt8)) = false := h2
              have hb : Hid (b7O o = false) := by show _ = _; unfold b7O; rw [h1, h2]; rfl
              clear h1 h2
              go_wp2_with fail
              go_meet
              exact ⟨by rw [hb.out], HX⟩
            · have e2 : (o.u.toList == ([] : List UInt8)) = true := h2
              have hb : Hid (b7O o = bareO o) := by show _ = _; unfold b7O; rw [h1, h2]; rfl
              clear h1 h2
              go_wp2_with fail
              go_meet
              exact ⟨by rw [hb.out], HX⟩
        case rest =>
          obtain ⟨rfl, HX⟩ := hcut
          rename World => w4
          clear y0 y1 y2 y3 y4
          go_upto_region 5 with fail
          have y0 : w4.cell? ⟨w.heap.size, 0, none⟩ = some (.int .i64 o.k) := blk_cell HX.out.2 0
          have y1 : w4.cell? ⟨w.heap.size, 1, none⟩ = some (.string o.c) := blk_cell HX.out.2 1
          have y2 : w4.cell? ⟨w.heap.size, 2, none⟩ = some (.string o.e) := blk_cell HX.out.2 2
          have y3 : w4.cell? ⟨w.heap.size, 3, none⟩ = some (.string o.u) := blk_cell HX.out.2 3
          have y4 : w4.cell? ⟨w.heap.size, 4, none⟩ = some (.int .i64 o.n) := blk_cell HX.out.2 4
          have hcs : o.c.size ≤ 140737488351232 := by omega
          have hes : o.e.size ≤ 140737488351232 := by omega
          have huss : o.u.size ≤ 140737488351232 := by omega
          by_cases hk : o.k = 1
          · have k1 : (o.k == 1) = true := beq_iff_eq.2 hk
            have k2 : (o.k == 2) = false := beq_eq_false_iff_ne.2 (by omega)
            have k3 : (o.k == 3) = false := beq_eq_false_iff_ne.2 (by omega)
            have k4 : (o.k == 4) = false := beq_eq_false_iff_ne.2 (by omega)
            have k5 : (o.k == 5) = false := beq_eq_false_iff_ne.2 (by omega)
            have k6 : (o.k == 6) = false := beq_eq_false_iff_ne.2 (by omega)
            have k7 : (o.k == 7) = false := beq_eq_false_iff_ne.2 (by omega)
            have k8 : (o.k == 8) = false := beq_eq_false_iff_ne.2 (by omega)
            have k9 : (o.k == 9) = false := beq_eq_false_iff_ne.2 (by omega)
            have ho : Hid (o = ⟨1, o.c, o.e, o.u, o.n⟩) := by show _ = _; rw [show (1 : Int) = o.k from hk.symm]
            have hm : Hid (mayO o = b5O o) := may_c (k := o.k) (by omega) o.c o.e o.u o.n
            clear hk
            cases hB : b5O o
            · have hR := Lib.hid (writeR_no (o := o) (hm.out.trans hB))
              go_wp2_with (go_at_call 17; refine (RName_any _ _ (by first | exact hcs | exact hes | exact huss)).mono ?_; rintro e wn ⟨rfl, hb⟩; have HX : Aside0 (Below w.heap.size w wn ∧ wn.heap[w.heap.size]? = some (Obj.cells #[Value.int IntKind.i64 o.k, Value.string o.c, Value.string o.e, Value.string o.u, Value.int IntKind.i64 o.n] 29 (0, 0))) := ⟨HX.out.1.trans (hb.mono HX.out.1.size), (hb.block w.heap.size (blk_lt HX.out.2)).trans HX.out.2⟩; clear hb; have y0 : wn.cell? ⟨w.heap.size, 0, none⟩ = some (.int .i64 o.k) := blk_cell HX.out.2 0; have y1 : wn.cell? ⟨w.heap.size, 1, none⟩ = some (.string o.c) := blk_cell HX.out.2 1; have y2 : wn.cell? ⟨w.heap.size, 2, none⟩ = some (.string o.e) := blk_cell HX.out.2 2; have y3 : wn.cell? ⟨w.heap.size, 3, none⟩ = some (.string o.u) := blk_cell HX.out.2 3; have y4 : wn.cell? ⟨w.heap.size, 4, none⟩ = some (.int .i64 o.n) := blk_cell HX.out.2 4)
              rw [hR.out]
              go_ret2
              exact ⟨rfl, HX.out.1⟩
            · have hR : Hid (writeR o = (⟨#[111, 112, 101, 110, 32]⟩ ++ o.c ++ ⟨#[59]⟩, 0)) := by show _ = _; rw [writeR_yes (hm.out.trans hB), show body o = ⟨#[111, 112, 101, 110, 32]⟩ ++ o.c by rw [ho.out]; exact body_1 _ _ _ _]
              go_wp2_with (go_at_call 17; refine (RName_any _ _ (by first | exact hcs | exact hes | exact huss)).mono ?_; rintro e wn ⟨rfl, hb⟩; have HX : Aside0 (Below w.heap.size w wn ∧ wn.heap[w.heap.size]? = some (Obj.cells #[Value.int IntKind.i64 o.k, Value.string o.c, Value.string o.e, Value.string o.u, Value.int IntKind.i64 o.n] 29 (0, 0))) := ⟨HX.out.1.trans (hb.mono HX.out.1.size), (hb.block w.heap.size (blk_lt HX.out.2)).trans HX.out.2⟩; clear hb; have y0 : wn.cell? ⟨w.heap.size, 0, none⟩ = some (.int .i64 o.k) := blk_cell HX.out.2 0; have y1 : wn.cell? ⟨w.heap.size, 1, none⟩ = some (.string o.c) := blk_cell HX.out.2 1; have y2 : wn.cell? ⟨w.heap.size, 2, none⟩ = some (.string o.e) := blk_cell HX.out.2 2; have y3 : wn.cell? ⟨w.heap.size, 3, none⟩ = some (.string o.u) := blk_cell HX.out.2 3; have y4 : wn.cell? ⟨w.heap.size, 4, none⟩ = some (.int .i64 o.n) := blk_cell HX.out.2 4)
              rw [hR.out]
              go_ret2
              exact ⟨rfl, HX.out.1⟩
          by_cases hk : o.k = 2
          · have k1 : (o.k == 1) = false := beq_eq_false_iff_ne.2 (by omega)
            have k2 : (o.k == 2) = true := beq_iff_eq.2 hk
            have k3 : (o.k == 3) = false := beq_eq_false_iff_ne.2 (by omega)
            have k4 : (o.k == 4) = false := beq_eq_false_iff_ne.2 (by omega)
            have k5 : (o.k == 5) = false := beq_eq_false_iff_ne.2 (by omega)
            have k6 : (o.k == 6) = false := beq_eq_false_iff_ne.2 (by omega)
            have k7 : (o.k == 7) = false := beq_eq_false_iff_ne.2 (by omega)
            have k8 : (o.k == 8) = false := beq_eq_false_iff_ne.2 (by omega)
            have k9 : (o.k == 9) = false := beq_eq_false_iff_ne.2 (by omega)
            have ho : Hid (o = ⟨2, o.c, o.e, o.u, o.n⟩) := by show _ = _; rw [show (2 : Int) = o.k from hk.symm]
            have hm : Hid (mayO o = (nameR o.c && (nameR o.e && (nameR o.u && o.n == 0)))) := by show _ = _; rw [show (mayO o = _) = (mayO ⟨2, o.c, o.e, o.u, o.n⟩ = _) from congrArg (fun x => mayO x = _) ho.out]; exact may_2 _ _ _ _
            clear hk
            cases n1 : nameR o.c
            · have hR := Lib.hid (writeR_no (o := o) (by rw [hm.out, n1]; rfl))
              go_wp2_with (go_at_call 17; refine (RName_any _ _ (by first | exact hcs | exact hes | exact huss)).mono ?_; rintro e wn ⟨rfl, hb⟩; have HX : Aside0 (Below w.heap.size w wn ∧ wn.heap[w.heap.size]? = some (Obj.cells #[Value.int IntKind.i64 o.k, Value.string o.c, Value.string o.e, Value.string o.u, Value.int IntKind.i64 o.n] 29 (0, 0))) := ⟨HX.out.1.trans (hb.mono HX.out.1.size), (hb.block w.heap.size (blk_lt HX.out.2)).trans HX.out.2⟩; clear hb; have y0 : wn.cell? ⟨w.heap.size, 0, none⟩ = some (.int .i64 o.k) := blk_cell HX.out.2 0; have y1 : wn.cell? ⟨w.heap.size, 1, none⟩ = some (.string o.c) := blk_cell HX.out.2 1; have y2 : wn.cell? ⟨w.heap.size, 2, none⟩ = some (.string o.e) := blk_cell HX.out.2 2; have y3 : wn.cell? ⟨w.heap.size, 3, none⟩ = some (.string o.u) := blk_cell HX.out.2 3; have y4 : wn.cell? ⟨w.heap.size, 4, none⟩ = some (.int .i64 o.n) := blk_cell HX.out.2 4)
              rw [hR.out]
              go_ret2
              exact ⟨rfl, HX.out.1⟩
            · cases n2 : nameR o.e
              · have hR := Lib.hid (writeR_no (o := o) (by rw [hm.out, n1, n2]; rfl))
                go_wp2_with (go_at_call 17; refine (RName_any _ _ (by first | exact hcs | exact hes | exact huss)).mono ?_; rintro e wn ⟨rfl, hb⟩; have HX : Aside0 (Below w.heap.size w wn ∧ wn.heap[w.heap.size]? = some (Obj.cells #[Value.int IntKind.i64 o.k, Value.string o.c, Value.string o.e, Value.string o.u, Value.int IntKind.i64 o.n] 29 (0, 0))) := ⟨HX.out.1.trans (hb.mono HX.out.1.size), (hb.block w.heap.size (blk_lt HX.out.2)).trans HX.out.2⟩; clear hb; have y0 : wn.cell? ⟨w.heap.size, 0, none⟩ = some (.int .i64 o.k) := blk_cell HX.out.2 0; have y1 : wn.cell? ⟨w.heap.size, 1, none⟩ = some (.string o.c) := blk_cell HX.out.2 1; have y2 : wn.cell? ⟨w.heap.size, 2, none⟩ = some (.string o.e) := blk_cell HX.out.2 2; have y3 : wn.cell? ⟨w.heap.size, 3, none⟩ = some (.string o.u) := blk_cell HX.out.2 3; have y4 : wn.cell? ⟨w.heap.size, 4, none⟩ = some (.int .i64 o.n) := blk_cell HX.out.2 4)
                rw [hR.out]
                go_ret2
                exact ⟨rfl, HX.out.1⟩
              · cases n3 : nameR o.u
                · have hR := Lib.hid (writeR_no (o := o) (by rw [hm.out, n1, n2, n3]; rfl))
                  go_wp2_with (go_at_call 17; refine (RName_any _ _ (by first | exact hcs | exact hes | exact huss)).mono ?_; rintro e wn ⟨rfl, hb⟩; have HX : Aside0 (Below w.heap.size w wn ∧ wn.heap[w.heap.size]? = some (Obj.cells #[Value.int IntKind.i64 o.k, Value.string o.c, Value.string o.e, Value.string o.u, Value.int IntKind.i64 o.n] 29 (0, 0))) := ⟨HX.out.1.trans (hb.mono HX.out.1.size), (hb.block w.heap.size (blk_lt HX.out.2)).trans HX.out.2⟩; clear hb; have y0 : wn.cell? ⟨w.heap.size, 0, none⟩ = some (.int .i64 o.k) := blk_cell HX.out.2 0; have y1 : wn.cell? ⟨w.heap.size, 1, none⟩ = some (.string o.c) := blk_cell HX.out.2 1; have y2 : wn.cell? ⟨w.heap.size, 2, none⟩ = some (.string o.e) := blk_cell HX.out.2 2; have y3 : wn.cell? ⟨w.heap.size, 3, none⟩ = some (.string o.u) := blk_cell HX.out.2 3; have y4 : wn.cell? ⟨w.heap.size, 4, none⟩ = some (.int .i64 o.n) := blk_cell HX.out.2 4)
                  rw [hR.out]
                  go_ret2
                  exact ⟨rfl, HX.out.1⟩
                · cases n4 : (o.n == 0)
                  · have hR := Lib.hid (writeR_no (o := o) (by rw [hm.out, n1, n2, n3, n4]; rfl))
                    go_wp2_with (go_at_call 17; refine (RName_any _ _ (by first | exact hcs | exact hes | exact huss)).mono ?_; rintro e wn ⟨rfl, hb⟩; have HX : Aside0 (Below w.heap.size w wn ∧ wn.heap[w.heap.size]? = some (Obj.cells #[Value.int IntKind.i64 o.k, Value.string o.c, Value.string o.e, Value.string o.u, Value.int IntKind.i64 o.n] 29 (0, 0))) := ⟨HX.out.1.trans (hb.mono HX.out.1.size), (hb.block w.heap.size (blk_lt HX.out.2)).trans HX.out.2⟩; clear hb; have y0 : wn.cell? ⟨w.heap.size, 0, none⟩ = some (.int .i64 o.k) := blk_cell HX.out.2 0; have y1 : wn.cell? ⟨w.heap.size, 1, none⟩ = some (.string o.c) := blk_cell HX.out.2 1; have y2 : wn.cell? ⟨w.heap.size, 2, none⟩ = some (.string o.e) := blk_cell HX.out.2 2; have y3 : wn.cell? ⟨w.heap.size, 3, none⟩ = some (.string o.u) := blk_cell HX.out.2 3; have y4 : wn.cell? ⟨w.heap.size, 4, none⟩ = some (.int .i64 o.n) := blk_cell HX.out.2 4)
                    rw [hR.out]
                    go_ret2
                    exact ⟨rfl, HX.out.1⟩
                  · have hR : Hid (writeR o = (⟨#[100, 111, 32]⟩ ++ o.c ++ ⟨#[32]⟩ ++ o.e ++ ⟨#[32]⟩ ++ o.u ++ ⟨#[59]⟩, 0)) := by show _ = _; rw [writeR_yes (by rw [hm.out, n1, n2, n3, n4]; rfl), show body o = ⟨#[100, 111, 32]⟩ ++ o.c ++ ⟨#[32]⟩ ++ o.e ++ ⟨#[32]⟩ ++ o.u by rw [ho.out]; exact body_2 _ _ _ _]
                    go_wp2_with (go_at_call 17; refine (RName_any _ _ (by first | exact hcs | exact hes | exact huss)).mono ?_; rintro e wn ⟨rfl, hb⟩; have HX : Aside0 (Below w.heap.size w wn ∧ wn.heap[w.heap.size]? = some (Obj.cells #[Value.int IntKind.i64 o.k, Value.string o.c, Value.string o.e, Value.string o.u, Value.int IntKind.i64 o.n] 29 (0, 0))) := ⟨HX.out.1.trans (hb.mono HX.out.1.size), (hb.block w.heap.size (blk_lt HX.out.2)).trans HX.out.2⟩; clear hb; have y0 : wn.cell? ⟨w.heap.size, 0, none⟩ = some (.int .i64 o.k) := blk_cell HX.out.2 0; have y1 : wn.cell? ⟨w.heap.size, 1, none⟩ = some (.string o.c) := blk_cell HX.out.2 1; have y2 : wn.cell? ⟨w.heap.size, 2, none⟩ = some (.string o.e) := blk_cell HX.out.2 2; have y3 : wn.cell? ⟨w.heap.size, 3, none⟩ = some (.string o.u) := blk_cell HX.out.2 3; have y4 : wn.cell? ⟨w.heap.size, 4, none⟩ = some (.int .i64 o.n) := blk_cell HX.out.2 4)
                    rw [hR.out]
                    go_ret2
                    exact ⟨rfl, HX.out.1⟩
          by_cases hk : o.k = 3
          · have k1 : (o.k == 1) = false := beq_eq_false_iff_ne.2 (by omega)
            have k2 : (o.k == 2) = false := beq_eq_false_iff_ne.2 (by omega)
            have k3 : (o.k == 3) = true := beq_iff_eq.2 hk
            have k4 : (o.k == 4) = false := beq_eq_false_iff_ne.2 (by omega)
            have k5 : (o.k == 5) = false := beq_eq_false_iff_ne.2 (by omega)
            have k6 : (o.k == 6) = false := beq_eq_false_iff_ne.2 (by omega)
            have k7 : (o.k == 7) = false := beq_eq_false_iff_ne.2 (by omega)
            have k8 : (o.k == 8) = false := beq_eq_false_iff_ne.2 (by omega)
            have k9 : (o.k == 9) = false := beq_eq_false_iff_ne.2 (by omega)
            have ho : Hid (o = ⟨3, o.c, o.e, o.u, o.n⟩) := by show _ = _; rw [show (3 : Int) = o.k from hk.symm]
            have hm : Hid (mayO o = (emp o.c && (emp o.u && (emp o.e && (decide (1 ≤ o.n) && decide (o.n ≤ 1000)))))) := by show _ = _; rw [show (mayO o = _) = (mayO ⟨3, o.c, o.e, o.u, o.n⟩ = _) from congrArg (fun x => mayO x = _) ho.out]; exact may_3 _ _ _ _
            clear hk
            cases x1 : emp o.c
            · have ex1 : (o.c.toList == ([] : List UInt8)) = false := x1
              have hR := Lib.hid (writeR_no (o := o) (by rw [hm.out, x1]; rfl))
              go_wp2_with (go_at_call 17; refine (RName_any _ _ (by first | exact hcs | exact hes | exact huss)).mono ?_; rintro e wn ⟨rfl, hb⟩; have HX : Aside0 (Below w.heap.size w wn ∧ wn.heap[w.heap.size]? = some (Obj.cells #[Value.int IntKind.i64 o.k, Value.string o.c, Value.string o.e, Value.string o.u, Value.int IntKind.i64 o.n] 29 (0, 0))) := ⟨HX.out.1.trans (hb.mono HX.out.1.size), (hb.block w.heap.size (blk_lt HX.out.2)).trans HX.out.2⟩; clear hb; have y0 : wn.cell? ⟨w.heap.size, 0, none⟩ = some (.int .i64 o.k) := blk_cell HX.out.2 0; have y1 : wn.cell? ⟨w.heap.size, 1, none⟩ = some (.string o.c) := blk_cell HX.out.2 1; have y2 : wn.cell? ⟨w.heap.size, 2, none⟩ = some (.string o.e) := blk_cell HX.out.2 2; have y3 : wn.cell? ⟨w.heap.size, 3, none⟩ = some (.string o.u) := blk_cell HX.out.2 3; have y4 : wn.cell? ⟨w.heap.size, 4, none⟩ = some (.int .i64 o.n) := blk_cell HX.out.2 4)
              rw [hR.out]
              go_ret2
              exact ⟨rfl, HX.out.1⟩
            · have ex1 : (o.c.toList == ([] : List UInt8)) = true := x1
              cases x2 : emp o.u
              · have ex2 : (o.u.toList == ([] : List UInt8)) = false := x2
                have hR := Lib.hid (writeR_no (o := o) (by rw [hm.out, x1, x2]; rfl))
                go_wp2_with (go_at_call 17; refine (RName_any _ _ (by first | exact hcs | exact hes | exact huss)).mono ?_; rintro e wn ⟨rfl, hb⟩; have HX : Aside0 (Below w.heap.size w wn ∧ wn.heap[w.heap.size]? = some (Obj.cells #[Value.int IntKind.i64 o.k, Value.string o.c, Value.string o.e, Value.string o.u, Value.int IntKind.i64 o.n] 29 (0, 0))) := ⟨HX.out.1.trans (hb.mono HX.out.1.size), (hb.block w.heap.size (blk_lt HX.out.2)).trans HX.out.2⟩; clear hb; have y0 : wn.cell? ⟨w.heap.size, 0, none⟩ = some (.int .i64 o.k) := blk_cell HX.out.2 0; have y1 : wn.cell? ⟨w.heap.size, 1, none⟩ = some (.string o.c) := blk_cell HX.out.2 1; have y2 : wn.cell? ⟨w.heap.size, 2, none⟩ = some (.string o.e) := blk_cell HX.out.2 2; have y3 : wn.cell? ⟨w.heap.size, 3, none⟩ = some (.string o.u) := blk_cell HX.out.2 3; have y4 : wn.cell? ⟨w.heap.size, 4, none⟩ = some (.int .i64 o.n) := blk_cell HX.out.2 4)
                rw [hR.out]
                go_ret2
                exact ⟨rfl, HX.out.1⟩
              · have ex2 : (o.u.toList == ([] : List UInt8)) = true := x2
                cases x3 : emp o.e
                · have ex3 : (o.e.toList == ([] : List UInt8)) = false := x3
                  have hR := Lib.hid (writeR_no (o := o) (by rw [hm.out, x1, x2, x3]; rfl))
                  go_wp2_with (go_at_call 17; refine (RName_any _ _ (by first | exact hcs | exact hes | exact huss)).mono ?_; rintro e wn ⟨rfl, hb⟩; have HX : Aside0 (Below w.heap.size w wn ∧ wn.heap[w.heap.size]? = some (Obj.cells #[Value.int IntKind.i64 o.k, Value.string o.c, Value.string o.e, Value.string o.u, Value.int IntKind.i64 o.n] 29 (0, 0))) := ⟨HX.out.1.trans (hb.mono HX.out.1.size), (hb.block w.heap.size (blk_lt HX.out.2)).trans HX.out.2⟩; clear hb; have y0 : wn.cell? ⟨w.heap.size, 0, none⟩ = some (.int .i64 o.k) := blk_cell HX.out.2 0; have y1 : wn.cell? ⟨w.heap.size, 1, none⟩ = some (.string o.c) := blk_cell HX.out.2 1; have y2 : wn.cell? ⟨w.heap.size, 2, none⟩ = some (.string o.e) := blk_cell HX.out.2 2; have y3 : wn.cell? ⟨w.heap.size, 3, none⟩ = some (.string o.u) := blk_cell HX.out.2 3; have y4 : wn.cell? ⟨w.heap.size, 4, none⟩ = some (.int .i64 o.n) := blk_cell HX.out.2 4)
                  rw [hR.out]
                  go_ret2
                  exact ⟨rfl, HX.out.1⟩
                · have ex3 : (o.e.toList == ([] : List UInt8)) = true := x3
                  by_cases g1 : 1 ≤ o.n
                  · by_cases g2 : o.n ≤ 1000
                    · have hdg := Lib.hid (digits_eq o.n g1 g2)
                      have hil := Lib.itoa_length_le o.n (by omega) (by omega)
                      have hR : Hid (writeR o = (⟨#[116, 105, 99, 107, 32]⟩ ++ ⟨(Lib.itoa o.n).toArray⟩ ++ ⟨#[59]⟩, 0)) := by show _ = _; rw [writeR_yes (by rw [hm.out, x1, x2, x3, decide_eq_true g1, decide_eq_true g2]; rfl), show body o = ⟨#[116, 105, 99, 107, 32]⟩ ++ ⟨(Lib.itoa o.n).toArray⟩ by rw [ho.out]; exact body_3 _ _ _ _]
                      go_wp2_with (first | (go_at_call 17; refine (RName_any _ _ (by first | exact hcs | exact hes | exact huss)).mono ?_; rintro e wn ⟨rfl, hb⟩; have HX : Aside0 (Below w.heap.size w wn ∧ wn.heap[w.heap.size]? = some (Obj.cells #[Value.int IntKind.i64 o.k, Value.string o.c, Value.string o.e, Value.string o.u, Value.int IntKind.i64 o.n] 29 (0, 0))) := ⟨HX.out.1.trans (hb.mono HX.out.1.size), (hb.block w.heap.size (blk_lt HX.out.2)).trans HX.out.2⟩; clear hb; have y0 : wn.cell? ⟨w.heap.size, 0, none⟩ = some (.int .i64 o.k) := blk_cell HX.out.2 0; have y1 : wn.cell? ⟨w.heap.size, 1, none⟩ = some (.string o.c) := blk_cell HX.out.2 1; have y2 : wn.cell? ⟨w.heap.size, 2, none⟩ = some (.string o.e) := blk_cell HX.out.2 2; have y3 : wn.cell? ⟨w.heap.size, 3, none⟩ = some (.string o.u) := blk_cell HX.out.2 3; have y4 : wn.cell? ⟨w.heap.size, 4, none⟩ = some (.int .i64 o.n) := blk_cell HX.out.2 4) | (go_at_call 18; refine (replevinref15_digits.calls 6 o.n _ _ hdg.out).mono ?_; rintro e wn ⟨rfl, ⟨n2, rfl⟩⟩))
                      rw [hR.out]
                      go_ret2
                      exact ⟨rfl, pw_below_drewN HX.out.1 _⟩
                    · have hR := Lib.hid (writeR_no (o := o) (by rw [hm.out, x1, x2, x3, decide_eq_true g1, decide_eq_false g2]; rfl))
                      go_wp2_with (go_at_call 17; refine (RName_any _ _ (by first | exact hcs | exact hes | exact huss)).mono ?_; rintro e wn ⟨rfl, hb⟩; have HX : Aside0 (Below w.heap.size w wn ∧ wn.heap[w.heap.size]? = some (Obj.cells #[Value.int IntKind.i64 o.k, Value.string o.c, Value.string o.e, Value.string o.u, Value.int IntKind.i64 o.n] 29 (0, 0))) := ⟨HX.out.1.trans (hb.mono HX.out.1.size), (hb.block w.heap.size (blk_lt HX.out.2)).trans HX.out.2⟩; clear hb; have y0 : wn.cell? ⟨w.heap.size, 0, none⟩ = some (.int .i64 o.k) := blk_cell HX.out.2 0; have y1 : wn.cell? ⟨w.heap.size, 1, none⟩ = some (.string o.c) := blk_cell HX.out.2 1; have y2 : wn.cell? ⟨w.heap.size, 2, none⟩ = some (.string o.e) := blk_cell HX.out.2 2; have y3 : wn.cell? ⟨w.heap.size, 3, none⟩ = some (.string o.u) := blk_cell HX.out.2 3; have y4 : wn.cell? ⟨w.heap.size, 4, none⟩ = some (.int .i64 o.n) := blk_cell HX.out.2 4)
                      rw [hR.out]
                      go_ret2
                      exact ⟨rfl, HX.out.1⟩
                  · have hR := Lib.hid (writeR_no (o := o) (by rw [hm.out, x1, x2, x3, decide_eq_false g1]; rfl))
                    go_wp2_with (go_at_call 17; refine (RName_any _ _ (by first | exact hcs | exact hes | exact huss)).mono ?_; rintro e wn ⟨rfl, hb⟩; have HX : Aside0 (Below w.heap.size w wn ∧ wn.heap[w.heap.size]? = some (Obj.cells #[Value.int IntKind.i64 o.k, Value.string o.c, Value.string o.e, Value.string o.u, Value.int IntKind.i64 o.n] 29 (0, 0))) := ⟨HX.out.1.trans (hb.mono HX.out.1.size), (hb.block w.heap.size (blk_lt HX.out.2)).trans HX.out.2⟩; clear hb; have y0 : wn.cell? ⟨w.heap.size, 0, none⟩ = some (.int .i64 o.k) := blk_cell HX.out.2 0; have y1 : wn.cell? ⟨w.heap.size, 1, none⟩ = some (.string o.c) := blk_cell HX.out.2 1; have y2 : wn.cell? ⟨w.heap.size, 2, none⟩ = some (.string o.e) := blk_cell HX.out.2 2; have y3 : wn.cell? ⟨w.heap.size, 3, none⟩ = some (.string o.u) := blk_cell HX.out.2 3; have y4 : wn.cell? ⟨w.heap.size, 4, none⟩ = some (.int .i64 o.n) := blk_cell HX.out.2 4)
                    rw [hR.out]
                    go_ret2
                    exact ⟨rfl, HX.out.1⟩
          by_cases hk : o.k = 4
          · have k1 : (o.k == 1) = false := beq_eq_false_iff_ne.2 (by omega)
            have k2 : (o.k == 2) = false := beq_eq_false_iff_ne.2 (by omega)
            have k3 : (o.k == 3) = false := beq_eq_false_iff_ne.2 (by omega)
            have k4 : (o.k == 4) = true := beq_iff_eq.2 hk
            have k5 : (o.k == 5) = false := beq_eq_false_iff_ne.2 (by omega)
            have k6 : (o.k == 6) = false := beq_eq_false_iff_ne.2 (by omega)
            have k7 : (o.k == 7) = false := beq_eq_false_iff_ne.2 (by omega)
            have k8 : (o.k == 8) = false := beq_eq_false_iff_ne.2 (by omega)
            have k9 : (o.k == 9) = false := beq_eq_false_iff_ne.2 (by omega)
            have ho : Hid (o = ⟨4, o.c, o.e, o.u, o.n⟩) := by show _ = _; rw [show (4 : Int) = o.k from hk.symm]
            have hm : Hid (mayO o = b5O o) := may_c (k := o.k) (by omega) o.c o.e o.u o.n
            clear hk
            cases hB : b5O o
            · have hR := Lib.hid (writeR_no (o := o) (hm.out.trans hB))
              go_wp2_with (go_at_call 17; refine (RName_any _ _ (by first | exact hcs | exact hes | exact huss)).mono ?_; rintro e wn ⟨rfl, hb⟩; have HX : Aside0 (Below w.heap.size w wn ∧ wn.heap[w.heap.size]? = some (Obj.cells #[Value.int IntKind.i64 o.k, Value.string o.c, Value.string o.e, Value.string o.u, Value.int IntKind.i64 o.n] 29 (0, 0))) := ⟨HX.out.1.trans (hb.mono HX.out.1.size), (hb.block w.heap.size (blk_lt HX.out.2)).trans HX.out.2⟩; clear hb; have y0 : wn.cell? ⟨w.heap.size, 0, none⟩ = some (.int .i64 o.k) := blk_cell HX.out.2 0; have y1 : wn.cell? ⟨w.heap.size, 1, none⟩ = some (.string o.c) := blk_cell HX.out.2 1; have y2 : wn.cell? ⟨w.heap.size, 2, none⟩ = some (.string o.e) := blk_cell HX.out.2 2; have y3 : wn.cell? ⟨w.heap.size, 3, none⟩ = some (.string o.u) := blk_cell HX.out.2 3; have y4 : wn.cell? ⟨w.heap.size, 4, none⟩ = some (.int .i64 o.n) := blk_cell HX.out.2 4)
              rw [hR.out]
              go_ret2
              exact ⟨rfl, HX.out.1⟩
            · have hR : Hid (writeR o = (⟨#[99, 108, 111, 115, 101, 32]⟩ ++ o.c ++ ⟨#[59]⟩, 0)) := by show _ = _; rw [writeR_yes (hm.out.trans hB), show body o = ⟨#[99, 108, 111, 115, 101, 32]⟩ ++ o.c by rw [ho.out]; exact body_4 _ _ _ _]
              go_wp2_with (go_at_call 17; refine (RName_any _ _ (by first | exact hcs | exact hes | exact huss)).mono ?_; rintro e wn ⟨rfl, hb⟩; have HX : Aside0 (Below w.heap.size w wn ∧ wn.heap[w.heap.size]? = some (Obj.cells #[Value.int IntKind.i64 o.k, Value.string o.c, Value.string o.e, Value.string o.u, Value.int IntKind.i64 o.n] 29 (0, 0))) := ⟨HX.out.1.trans (hb.mono HX.out.1.size), (hb.block w.heap.size (blk_lt HX.out.2)).trans HX.out.2⟩; clear hb; have y0 : wn.cell? ⟨w.heap.size, 0, none⟩ = some (.int .i64 o.k) := blk_cell HX.out.2 0; have y1 : wn.cell? ⟨w.heap.size, 1, none⟩ = some (.string o.c) := blk_cell HX.out.2 1; have y2 : wn.cell? ⟨w.heap.size, 2, none⟩ = some (.string o.e) := blk_cell HX.out.2 2; have y3 : wn.cell? ⟨w.heap.size, 3, none⟩ = some (.string o.u) := blk_cell HX.out.2 3; have y4 : wn.cell? ⟨w.heap.size, 4, none⟩ = some (.int .i64 o.n) := blk_cell HX.out.2 4)
              rw [hR.out]
              go_ret2
              exact ⟨rfl, HX.out.1⟩
          by_cases hk : o.k = 5
          · have k1 : (o.k == 1) = false := beq_eq_false_iff_ne.2 (by omega)
            have k2 : (o.k == 2) = false := beq_eq_false_iff_ne.2 (by omega)
            have k3 : (o.k == 3) = false := beq_eq_false_iff_ne.2 (by omega)
            have k4 : (o.k == 4) = false := beq_eq_false_iff_ne.2 (by omega)
            have k5 : (o.k == 5) = true := beq_iff_eq.2 hk
            have k6 : (o.k == 6) = false := beq_eq_false_iff_ne.2 (by omega)
            have k7 : (o.k == 7) = false := beq_eq_false_iff_ne.2 (by omega)
            have k8 : (o.k == 8) = false := beq_eq_false_iff_ne.2 (by omega)
            have k9 : (o.k == 9) = false := beq_eq_false_iff_ne.2 (by omega)
            have ho : Hid (o = ⟨5, o.c, o.e, o.u, o.n⟩) := by show _ = _; rw [show (5 : Int) = o.k from hk.symm]
            have hm : Hid (mayO o = b6O o) := may_u (k := o.k) (by omega) o.c o.e o.u o.n
            clear hk
            cases hB : b6O o
            · have hR := Lib.hid (writeR_no (o := o) (hm.out.trans hB))
              go_wp2_with (go_at_call 17; refine (RName_any _ _ (by first | exact hcs | exact hes | exact huss)).mono ?_; rintro e wn ⟨rfl, hb⟩; have HX : Aside0 (Below w.heap.size w wn ∧ wn.heap[w.heap.size]? = some (Obj.cells #[Value.int IntKind.i64 o.k, Value.string o.c, Value.string o.e, Value.string o.u, Value.int IntKind.i64 o.n] 29 (0, 0))) := ⟨HX.out.1.trans (hb.mono HX.out.1.size), (hb.block w.heap.size (blk_lt HX.out.2)).trans HX.out.2⟩; clear hb; have y0 : wn.cell? ⟨w.heap.size, 0, none⟩ = some (.int .i64 o.k) := blk_cell HX.out.2 0; have y1 : wn.cell? ⟨w.heap.size, 1, none⟩ = some (.string o.c) := blk_cell HX.out.2 1; have y2 : wn.cell? ⟨w.heap.size, 2, none⟩ = some (.string o.e) := blk_cell HX.out.2 2; have y3 : wn.cell? ⟨w.heap.size, 3, none⟩ = some (.string o.u) := blk_cell HX.out.2 3; have y4 : wn.cell? ⟨w.heap.size, 4, none⟩ = some (.int .i64 o.n) := blk_cell HX.out.2 4)
              rw [hR.out]
              go_ret2
              exact ⟨rfl, HX.out.1⟩
            · have hR : Hid (writeR o = (⟨#[97, 119, 97, 121, 32]⟩ ++ o.u ++ ⟨#[59]⟩, 0)) := by show _ = _; rw [writeR_yes (hm.out.trans hB), show body o = ⟨#[97, 119, 97, 121, 32]⟩ ++ o.u by rw [ho.out]; exact body_5 _ _ _ _]
              go_wp2_with (go_at_call 17; refine (RName_any _ _ (by first | exact hcs | exact hes | exact huss)).mono ?_; rintro e wn ⟨rfl, hb⟩; have HX : Aside0 (Below w.heap.size w wn ∧ wn.heap[w.heap.size]? = some (Obj.cells #[Value.int IntKind.i64 o.k, Value.string o.c, Value.string o.e, Value.string o.u, Value.int IntKind.i64 o.n] 29 (0, 0))) := ⟨HX.out.1.trans (hb.mono HX.out.1.size), (hb.block w.heap.size (blk_lt HX.out.2)).trans HX.out.2⟩; clear hb; have y0 : wn.cell? ⟨w.heap.size, 0, none⟩ = some (.int .i64 o.k) := blk_cell HX.out.2 0; have y1 : wn.cell? ⟨w.heap.size, 1, none⟩ = some (.string o.c) := blk_cell HX.out.2 1; have y2 : wn.cell? ⟨w.heap.size, 2, none⟩ = some (.string o.e) := blk_cell HX.out.2 2; have y3 : wn.cell? ⟨w.heap.size, 3, none⟩ = some (.string o.u) := blk_cell HX.out.2 3; have y4 : wn.cell? ⟨w.heap.size, 4, none⟩ = some (.int .i64 o.n) := blk_cell HX.out.2 4)
              rw [hR.out]
              go_ret2
              exact ⟨rfl, HX.out.1⟩
          by_cases hk : o.k = 6
          · have k1 : (o.k == 1) = false := beq_eq_false_iff_ne.2 (by omega)
            have k2 : (o.k == 2) = false := beq_eq_false_iff_ne.2 (by omega)
            have k3 : (o.k == 3) = false := beq_eq_false_iff_ne.2 (by omega)
            have k4 : (o.k == 4) = false := beq_eq_false_iff_ne.2 (by omega)
            have k5 : (o.k == 5) = false := beq_eq_false_iff_ne.2 (by omega)
            have k6 : (o.k == 6) = true := beq_iff_eq.2 hk
            have k7 : (o.k == 7) = false := beq_eq_false_iff_ne.2 (by omega)
            have k8 : (o.k == 8) = false := beq_eq_false_iff_ne.2 (by omega)
            have k9 : (o.k == 9) = false := beq_eq_false_iff_ne.2 (by omega)
            have ho : Hid (o = ⟨6, o.c, o.e, o.u, o.n⟩) := by show _ = _; rw [show (6 : Int) = o.k from hk.symm]
            have hm : Hid (mayO o = b6O o) := may_u (k := o.k) (by omega) o.c o.e o.u o.n
            clear hk
            cases hB : b6O o
            · have hR := Lib.hid (writeR_no (o := o) (hm.out.trans hB))
              go_wp2_with (go_at_call 17; refine (RName_any _ _ (by first | exact hcs | exact hes | exact huss)).mono ?_; rintro e wn ⟨rfl, hb⟩; have HX : Aside0 (Below w.heap.size w wn ∧ wn.heap[w.heap.size]? = some (Obj.cells #[Value.int IntKind.i64 o.k, Value.string o.c, Value.string o.e, Value.string o.u, Value.int IntKind.i64 o.n] 29 (0, 0))) := ⟨HX.out.1.trans (hb.mono HX.out.1.size), (hb.block w.heap.size (blk_lt HX.out.2)).trans HX.out.2⟩; clear hb; have y0 : wn.cell? ⟨w.heap.size, 0, none⟩ = some (.int .i64 o.k) := blk_cell HX.out.2 0; have y1 : wn.cell? ⟨w.heap.size, 1, none⟩ = some (.string o.c) := blk_cell HX.out.2 1; have y2 : wn.cell? ⟨w.heap.size, 2, none⟩ = some (.string o.e) := blk_cell HX.out.2 2; have y3 : wn.cell? ⟨w.heap.size, 3, none⟩ = some (.string o.u) := blk_cell HX.out.2 3; have y4 : wn.cell? ⟨w.heap.size, 4, none⟩ = some (.int .i64 o.n) := blk_cell HX.out.2 4)
              rw [hR.out]
              go_ret2
              exact ⟨rfl, HX.out.1⟩
            · have hR : Hid (writeR o = (⟨#[104, 101, 114, 101, 32]⟩ ++ o.u ++ ⟨#[59]⟩, 0)) := by show _ = _; rw [writeR_yes (hm.out.trans hB), show body o = ⟨#[104, 101, 114, 101, 32]⟩ ++ o.u by rw [ho.out]; exact body_6 _ _ _ _]
              go_wp2_with (go_at_call 17; refine (RName_any _ _ (by first | exact hcs | exact hes | exact huss)).mono ?_; rintro e wn ⟨rfl, hb⟩; have HX : Aside0 (Below w.heap.size w wn ∧ wn.heap[w.heap.size]? = some (Obj.cells #[Value.int IntKind.i64 o.k, Value.string o.c, Value.string o.e, Value.string o.u, Value.int IntKind.i64 o.n] 29 (0, 0))) := ⟨HX.out.1.trans (hb.mono HX.out.1.size), (hb.block w.heap.size (blk_lt HX.out.2)).trans HX.out.2⟩; clear hb; have y0 : wn.cell? ⟨w.heap.size, 0, none⟩ = some (.int .i64 o.k) := blk_cell HX.out.2 0; have y1 : wn.cell? ⟨w.heap.size, 1, none⟩ = some (.string o.c) := blk_cell HX.out.2 1; have y2 : wn.cell? ⟨w.heap.size, 2, none⟩ = some (.string o.e) := blk_cell HX.out.2 2; have y3 : wn.cell? ⟨w.heap.size, 3, none⟩ = some (.string o.u) := blk_cell HX.out.2 3; have y4 : wn.cell? ⟨w.heap.size, 4, none⟩ = some (.int .i64 o.n) := blk_cell HX.out.2 4)
              rw [hR.out]
              go_ret2
              exact ⟨rfl, HX.out.1⟩
          by_cases hk : o.k = 7
          · have k1 : (o.k == 1) = false := beq_eq_false_iff_ne.2 (by omega)
            have k2 : (o.k == 2) = false := beq_eq_false_iff_ne.2 (by omega)
            have k3 : (o.k == 3) = false := beq_eq_false_iff_ne.2 (by omega)
            have k4 : (o.k == 4) = false := beq_eq_false_iff_ne.2 (by omega)
            have k5 : (o.k == 5) = false := beq_eq_false_iff_ne.2 (by omega)
            have k6 : (o.k == 6) = false := beq_eq_false_iff_ne.2 (by omega)
            have k7 : (o.k == 7) = true := beq_iff_eq.2 hk
            have k8 : (o.k == 8) = false := beq_eq_false_iff_ne.2 (by omega)
            have k9 : (o.k == 9) = false := beq_eq_false_iff_ne.2 (by omega)
            have ho : Hid (o = ⟨7, o.c, o.e, o.u, o.n⟩) := by show _ = _; rw [show (7 : Int) = o.k from hk.symm]
            have hm : Hid (mayO o = b5O o) := may_c (k := o.k) (by omega) o.c o.e o.u o.n
            clear hk
            cases hB : b5O o
            · have hR := Lib.hid (writeR_no (o := o) (hm.out.trans hB))
              go_wp2_with (go_at_call 17; refine (RName_any _ _ (by first | exact hcs | exact hes | exact huss)).mono ?_; rintro e wn ⟨rfl, hb⟩; have HX : Aside0 (Below w.heap.size w wn ∧ wn.heap[w.heap.size]? = some (Obj.cells #[Value.int IntKind.i64 o.k, Value.string o.c, Value.string o.e, Value.string o.u, Value.int IntKind.i64 o.n] 29 (0, 0))) := ⟨HX.out.1.trans (hb.mono HX.out.1.size), (hb.block w.heap.size (blk_lt HX.out.2)).trans HX.out.2⟩; clear hb; have y0 : wn.cell? ⟨w.heap.size, 0, none⟩ = some (.int .i64 o.k) := blk_cell HX.out.2 0; have y1 : wn.cell? ⟨w.heap.size, 1, none⟩ = some (.string o.c) := blk_cell HX.out.2 1; have y2 : wn.cell? ⟨w.heap.size, 2, none⟩ = some (.string o.e) := blk_cell HX.out.2 2; have y3 : wn.cell? ⟨w.heap.size, 3, none⟩ = some (.string o.u) := blk_cell HX.out.2 3; have y4 : wn.cell? ⟨w.heap.size, 4, none⟩ = some (.int .i64 o.n) := blk_cell HX.out.2 4)
              rw [hR.out]
              go_ret2
              exact ⟨rfl, HX.out.1⟩
            · have hR : Hid (writeR o = (⟨#[97, 115, 107, 32]⟩ ++ o.c ++ ⟨#[59]⟩, 0)) := by show _ = _; rw [writeR_yes (hm.out.trans hB), show body o = ⟨#[97, 115, 107, 32]⟩ ++ o.c by rw [ho.out]; exact body_7 _ _ _ _]
              go_wp2_with (go_at_call 17; refine (RName_any _ _ (by first | exact hcs | exact hes | exact huss)).mono ?_; rintro e wn ⟨rfl, hb⟩; have HX : Aside0 (Below w.heap.size w wn ∧ wn.heap[w.heap.size]? = some (Obj.cells #[Value.int IntKind.i64 o.k, Value.string o.c, Value.string o.e, Value.string o.u, Value.int IntKind.i64 o.n] 29 (0, 0))) := ⟨HX.out.1.trans (hb.mono HX.out.1.size), (hb.block w.heap.size (blk_lt HX.out.2)).trans HX.out.2⟩; clear hb; have y0 : wn.cell? ⟨w.heap.size, 0, none⟩ = some (.int .i64 o.k) := blk_cell HX.out.2 0; have y1 : wn.cell? ⟨w.heap.size, 1, none⟩ = some (.string o.c) := blk_cell HX.out.2 1; have y2 : wn.cell? ⟨w.heap.size, 2, none⟩ = some (.string o.e) := blk_cell HX.out.2 2; have y3 : wn.cell? ⟨w.heap.size, 3, none⟩ = some (.string o.u) := blk_cell HX.out.2 3; have y4 : wn.cell? ⟨w.heap.size, 4, none⟩ = some (.int .i64 o.n) := blk_cell HX.out.2 4)
              rw [hR.out]
              go_ret2
              exact ⟨rfl, HX.out.1⟩
          by_cases hk : o.k = 8
          · have k1 : (o.k == 1) = false := beq_eq_false_iff_ne.2 (by omega)
            have k2 : (o.k == 2) = false := beq_eq_false_iff_ne.2 (by omega)
            have k3 : (o.k == 3) = false := beq_eq_false_iff_ne.2 (by omega)
            have k4 : (o.k == 4) = false := beq_eq_false_iff_ne.2 (by omega)
            have k5 : (o.k == 5) = false := beq_eq_false_iff_ne.2 (by omega)
            have k6 : (o.k == 6) = false := beq_eq_false_iff_ne.2 (by omega)
            have k7 : (o.k == 7) = false := beq_eq_false_iff_ne.2 (by omega)
            have k8 : (o.k == 8) = true := beq_iff_eq.2 hk
            have k9 : (o.k == 9) = false := beq_eq_false_iff_ne.2 (by omega)
            have ho : Hid (o = ⟨8, o.c, o.e, o.u, o.n⟩) := by show _ = _; rw [show (8 : Int) = o.k from hk.symm]
            have hm : Hid (mayO o = b7O o) := may_z (k := o.k) (by omega) o.c o.e o.u o.n
            clear hk
            cases hB : b7O o
            · have hR := Lib.hid (writeR_no (o := o) (hm.out.trans hB))
              go_wp2_with (go_at_call 17; refine (RName_any _ _ (by first | exact hcs | exact hes | exact huss)).mono ?_; rintro e wn ⟨rfl, hb⟩; have HX : Aside0 (Below w.heap.size w wn ∧ wn.heap[w.heap.size]? = some (Obj.cells #[Value.int IntKind.i64 o.k, Value.string o.c, Value.string o.e, Value.string o.u, Value.int IntKind.i64 o.n] 29 (0, 0))) := ⟨HX.out.1.trans (hb.mono HX.out.1.size), (hb.block w.heap.size (blk_lt HX.out.2)).trans HX.out.2⟩; clear hb; have y0 : wn.cell? ⟨w.heap.size, 0, none⟩ = some (.int .i64 o.k) := blk_cell HX.out.2 0; have y1 : wn.cell? ⟨w.heap.size, 1, none⟩ = some (.string o.c) := blk_cell HX.out.2 1; have y2 : wn.cell? ⟨w.heap.size, 2, none⟩ = some (.string o.e) := blk_cell HX.out.2 2; have y3 : wn.cell? ⟨w.heap.size, 3, none⟩ = some (.string o.u) := blk_cell HX.out.2 3; have y4 : wn.cell? ⟨w.heap.size, 4, none⟩ = some (.int .i64 o.n) := blk_cell HX.out.2 4)
              rw [hR.out]
              go_ret2
              exact ⟨rfl, HX.out.1⟩
            · have hR : Hid (writeR o = (⟨#[103, 105, 118, 101]⟩ ++ ⟨#[59]⟩, 0)) := by show _ = _; rw [writeR_yes (hm.out.trans hB), show body o = ⟨#[103, 105, 118, 101]⟩ by rw [ho.out]; exact body_8 _ _ _ _]
              go_wp2_with (go_at_call 17; refine (RName_any _ _ (by first | exact hcs | exact hes | exact huss)).mono ?_; rintro e wn ⟨rfl, hb⟩; have HX : Aside0 (Below w.heap.size w wn ∧ wn.heap[w.heap.size]? = some (Obj.cells #[Value.int IntKind.i64 o.k, Value.string o.c, Value.string o.e, Value.string o.u, Value.int IntKind.i64 o.n] 29 (0, 0))) := ⟨HX.out.1.trans (hb.mono HX.out.1.size), (hb.block w.heap.size (blk_lt HX.out.2)).trans HX.out.2⟩; clear hb; have y0 : wn.cell? ⟨w.heap.size, 0, none⟩ = some (.int .i64 o.k) := blk_cell HX.out.2 0; have y1 : wn.cell? ⟨w.heap.size, 1, none⟩ = some (.string o.c) := blk_cell HX.out.2 1; have y2 : wn.cell? ⟨w.heap.size, 2, none⟩ = some (.string o.e) := blk_cell HX.out.2 2; have y3 : wn.cell? ⟨w.heap.size, 3, none⟩ = some (.string o.u) := blk_cell HX.out.2 3; have y4 : wn.cell? ⟨w.heap.size, 4, none⟩ = some (.int .i64 o.n) := blk_cell HX.out.2 4)
              rw [hR.out]
              go_ret2
              exact ⟨rfl, HX.out.1⟩
          by_cases hk : o.k = 9
          · have k1 : (o.k == 1) = false := beq_eq_false_iff_ne.2 (by omega)
            have k2 : (o.k == 2) = false := beq_eq_false_iff_ne.2 (by omega)
            have k3 : (o.k == 3) = false := beq_eq_false_iff_ne.2 (by omega)
            have k4 : (o.k == 4) = false := beq_eq_false_iff_ne.2 (by omega)
            have k5 : (o.k == 5) = false := beq_eq_false_iff_ne.2 (by omega)
            have k6 : (o.k == 6) = false := beq_eq_false_iff_ne.2 (by omega)
            have k7 : (o.k == 7) = false := beq_eq_false_iff_ne.2 (by omega)
            have k8 : (o.k == 8) = false := beq_eq_false_iff_ne.2 (by omega)
            have k9 : (o.k == 9) = true := beq_iff_eq.2 hk
            have ho : Hid (o = ⟨9, o.c, o.e, o.u, o.n⟩) := by show _ = _; rw [show (9 : Int) = o.k from hk.symm]
            have hm : Hid (mayO o = b7O o) := may_z (k := o.k) (by omega) o.c o.e o.u o.n
            clear hk
            cases hB : b7O o
            · have hR := Lib.hid (writeR_no (o := o) (hm.out.trans hB))
              go_wp2_with (go_at_call 17; refine (RName_any _ _ (by first | exact hcs | exact hes | exact huss)).mono ?_; rintro e wn ⟨rfl, hb⟩; have HX : Aside0 (Below w.heap.size w wn ∧ wn.heap[w.heap.size]? = some (Obj.cells #[Value.int IntKind.i64 o.k, Value.string o.c, Value.string o.e, Value.string o.u, Value.int IntKind.i64 o.n] 29 (0, 0))) := ⟨HX.out.1.trans (hb.mono HX.out.1.size), (hb.block w.heap.size (blk_lt HX.out.2)).trans HX.out.2⟩; clear hb; have y0 : wn.cell? ⟨w.heap.size, 0, none⟩ = some (.int .i64 o.k) := blk_cell HX.out.2 0; have y1 : wn.cell? ⟨w.heap.size, 1, none⟩ = some (.string o.c) := blk_cell HX.out.2 1; have y2 : wn.cell? ⟨w.heap.size, 2, none⟩ = some (.string o.e) := blk_cell HX.out.2 2; have y3 : wn.cell? ⟨w.heap.size, 3, none⟩ = some (.string o.u) := blk_cell HX.out.2 3; have y4 : wn.cell? ⟨w.heap.size, 4, none⟩ = some (.int .i64 o.n) := blk_cell HX.out.2 4)
              rw [hR.out]
              go_ret2
              exact ⟨rfl, HX.out.1⟩
            · have hR : Hid (writeR o = (⟨#[111, 110]⟩ ++ ⟨#[59]⟩, 0)) := by show _ = _; rw [writeR_yes (hm.out.trans hB), show body o = ⟨#[111, 110]⟩ by rw [ho.out]; exact body_9 _ _ _ _]
              go_wp2_with (go_at_call 17; refine (RName_any _ _ (by first | exact hcs | exact hes | exact huss)).mono ?_; rintro e wn ⟨rfl, hb⟩; have HX : Aside0 (Below w.heap.size w wn ∧ wn.heap[w.heap.size]? = some (Obj.cells #[Value.int IntKind.i64 o.k, Value.string o.c, Value.string o.e, Value.string o.u, Value.int IntKind.i64 o.n] 29 (0, 0))) := ⟨HX.out.1.trans (hb.mono HX.out.1.size), (hb.block w.heap.size (blk_lt HX.out.2)).trans HX.out.2⟩; clear hb; have y0 : wn.cell? ⟨w.heap.size, 0, none⟩ = some (.int .i64 o.k) := blk_cell HX.out.2 0; have y1 : wn.cell? ⟨w.heap.size, 1, none⟩ = some (.string o.c) := blk_cell HX.out.2 1; have y2 : wn.cell? ⟨w.heap.size, 2, none⟩ = some (.string o.e) := blk_cell HX.out.2 2; have y3 : wn.cell? ⟨w.heap.size, 3, none⟩ = some (.string o.u) := blk_cell HX.out.2 3; have y4 : wn.cell? ⟨w.heap.size, 4, none⟩ = some (.int .i64 o.n) := blk_cell HX.out.2 4)
              rw [hR.out]
              go_ret2
              exact ⟨rfl, HX.out.1⟩
          have k1 : (o.k == 1) = false := beq_eq_false_iff_ne.2 (by omega)
          have k2 : (o.k == 2) = false := beq_eq_false_iff_ne.2 (by omega)
          have k3 : (o.k == 3) = false := beq_eq_false_iff_ne.2 (by omega)
          have k4 : (o.k == 4) = false := beq_eq_false_iff_ne.2 (by omega)
          have k5 : (o.k == 5) = false := beq_eq_false_iff_ne.2 (by omega)
          have k6 : (o.k == 6) = false := beq_eq_false_iff_ne.2 (by omega)
          have k7 : (o.k == 7) = false := beq_eq_false_iff_ne.2 (by omega)
          have k8 : (o.k == 8) = false := beq_eq_false_iff_ne.2 (by omega)
          have k9 : (o.k == 9) = false := beq_eq_false_iff_ne.2 (by omega)
          have hm := may_no (k := o.k) (by omega) o.c o.e o.u o.n
          have hR := Lib.hid (writeR_no (o := o) hm)
          go_wp2_with (go_at_call 17; refine (RName_any _ _ (by first | exact hcs | exact hes | exact huss)).mono ?_; rintro e wn ⟨rfl, hb⟩; have HX : Aside0 (Below w.heap.size w wn ∧ wn.heap[w.heap.size]? = some (Obj.cells #[Value.int IntKind.i64 o.k, Value.string o.c, Value.string o.e, Value.string o.u, Value.int IntKind.i64 o.n] 29 (0, 0))) := ⟨HX.out.1.trans (hb.mono HX.out.1.size), (hb.block w.heap.size (blk_lt HX.out.2)).trans HX.out.2⟩; clear hb; have y0 : wn.cell? ⟨w.heap.size, 0, none⟩ = some (.int .i64 o.k) := blk_cell HX.out.2 0; have y1 : wn.cell? ⟨w.heap.size, 1, none⟩ = some (.string o.c) := blk_cell HX.out.2 1; have y2 : wn.cell? ⟨w.heap.size, 2, none⟩ = some (.string o.e) := blk_cell HX.out.2 2; have y3 : wn.cell? ⟨w.heap.size, 3, none⟩ = some (.string o.u) := blk_cell HX.out.2 3; have y4 : wn.cell? ⟨w.heap.size, 4, none⟩ = some (.int .i64 o.n) := blk_cell HX.out.2 4)
          rw [hR.out]
          go_ret2
          exact ⟨rfl, HX.out.1⟩
end Go.Proofs.YtdphomiljkclbaaDoor
