/- Lemmas and contracts for the functions of one layer of the program, used by the law's proof. No conditions beyond those typed. -/
import Derived.Test.YtdphomiljkclbaaDoorOrdD
namespace Go.Proofs.YtdphomiljkclbaaDoor
set_option linter.unusedVariables false
set_option linter.unusedSimpArgs false
open Go.RowKit Go.Proofs.YtdphomiljkclbaaDoorW.PrintWords Go.Proofs.YtdphomiljkclbaaDoorW.PrintLast Go.Proofs.YtdphomiljkclbaaDoorW.PrintMore Go.Proofs.YtdphomiljkclbaaDoor.P

theorem text_three (o : Ord) (c : Nat) (hcc : c = 99 ∨ c = 101 ∨ c = 117) (w : World) : Calls Tryd.prog 15 #[ordV o, .int .i32 (c : Int)] w fun e w' => e = .returned (.string (textO o c)) ∧ Below w.heap.size w w' := by
  rcases hcc with rfl | rfl | rfl
  · exact text_c o w
  · exact text_e o w
  · exact text_u o w
theorem textO_size (o : Ord) (c : Nat) (hcc : c = 99 ∨ c = 101 ∨ c = 117) (hc : Hid (o.c.size ≤ 140737488351232)) (he : Hid (o.e.size ≤ 140737488351232)) (hu : Hid (o.u.size ≤ 140737488351232)) : (textO o c).size ≤ 140737488351232 := by
  unfold textO
  split
  · exact hc.out
  · split
    · exact he.out
    · exact hu.out
set_option maxHeartbeats 40000000 in
set_option maxRecDepth 100000 in
theorem May_any (o : Ord) (hc : o.c.size ≤ 140737488351232) (he : o.e.size ≤ 140737488351232) (hus : o.u.size ≤ 140737488351232) (w : World) :
    Calls Tryd.prog 11 #[ordV o] w fun e w' => e = .returned (.bool (mayO o)) ∧ Below w.heap.size w w' := by
  have hu := Tryd.underlying23
  have hcs := Lib.hid hc
  have hes := Lib.hid he
  have huss := Lib.hid hus
  clear hc he hus
  by_cases h1 : 1 ≤ o.k
  · by_cases h9 : o.k ≤ 9
    · go_enter Tryd.func11, Tryd.ntmps11
      have hb0 := Lib.hid (below_alloc (Below.refl w.heap.size w) (.cells #[Value.int IntKind.i64 o.k, Value.string o.c, Value.string o.e, Value.string o.u, Value.int IntKind.i64 o.n] 23))
      have hO0 := Lib.hid (blk_new w (.cells #[Value.int IntKind.i64 o.k, Value.string o.c, Value.string o.e, Value.string o.u, Value.int IntKind.i64 o.n] 23))
      have hp := Lib.hid (parts_eq o.k h1 h9)
      go_wp2
      generalize hW : w.alloc (.cells #[Value.int IntKind.i64 o.k, Value.string o.c, Value.string o.e, Value.string o.u, Value.int IntKind.i64 o.n] 23) = W at *
      have hx : W.cell? ⟨w.heap.size, 0, none⟩ = some (.int .i64 o.k) := blk_cell hO0.out 0
      go_upto_region 3 with fail
      go_cut [3] from 14 to 19 (fun v3 wx => v3 = .string (partsK o.k) ∧ Aside0 (Below W.heap.size W wx))
      case first =>
        go_region_with (first
          | (go_at_call 13; refine (order_words.calls _ _ words_eq).mono ?_; rintro e w1 ⟨v0, rfl, hR1, hb1⟩; obtain ⟨A1, c1, rfl, hlc1, hC1⟩ := Kd.R_reads hR1; obtain ⟨ad1, e1, hx1⟩ := Kd.at_string hC1 o.k (by omega) (by show o.k < ((10 : Nat) : Int); omega); cases e1; rw [show wordsB.length = 10 from rfl]; have hx2 : w1.cell? ⟨w.heap.size, 0, none⟩ = some (.int .i64 o.k) := ((bcell hb1).1 _ _ (blk_lt hO0.out)).trans hx; have HB1 := Lib.hid hb1; clear hb1)
          | (go_at_call 14; refine (order_parts.calls 1 _ _ _ hp.out).mono ?_; rintro e w2 ⟨rfl, ⟨n2, rfl⟩⟩))
        all_goals (go_wp2_with fail; go_meet; exact ⟨rfl, ⟨pw_below_drewN ((Below.refl W.heap.size W).drew.trans HB1.out) _⟩⟩)
      case rest =>
        obtain ⟨rfl, HBx⟩ := hcut
        rename World => w2
        go_wp2_with fail
        have hlt := blk_lt hO0.out
        have hOx := Lib.hid ((HBx.out.block w.heap.size hlt).trans hO0.out)
        have x0 : w2.cell? ⟨w.heap.size, 0, none⟩ = some (.int .i64 o.k) := blk_cell hOx.out 0
        have x1 : w2.cell? ⟨w.heap.size, 1, none⟩ = some (.string o.c) := blk_cell hOx.out 1
        have x2 : w2.cell? ⟨w.heap.size, 2, none⟩ = some (.string o.e) := blk_cell hOx.out 2
        have x3 : w2.cell? ⟨w.heap.size, 3, none⟩ = some (.string o.u) := blk_cell hOx.out 3
        have x4 : w2.cell? ⟨w.heap.size, 4, none⟩ = some (.int .i64 o.n) := blk_cell hOx.out 4
        have HA := Lib.hid (partsK_ascii o.k)
        have hsz := partsK_size o.k
        have hne : ∀ W' : World, (binOp .neq 23 (.agg #[.int .i64 o.k, .string o.c, .string o.e, .string o.u, .int .i64 o.n]) (.agg #[.int .i64 (keptO o (partsK o.k)).k, .string (keptO o (partsK o.k)).c, .string (keptO o (partsK o.k)).e, .string (keptO o (partsK o.k)).u, .int .i64 (keptO o (partsK o.k)).n])).run Tryd.prog W' = .ok (.bool (!(o.same (keptO o (partsK o.k))))) W' := fun W' => neOrd o (keptO o (partsK o.k)) W'
        have hbad : Hid (badO o = (!(o.same (keptO o (partsK o.k))) || (o.k == 3 && (decide (o.n < 1) || decide (1000 < o.n))))) := rfl
        generalize o.same (keptO o (partsK o.k)) = sm at hne hbad
        go_upto_region 4 with fail
        go_cut [39] from 20 to 38 (fun v39 wx => v39 = .bool (badO o) ∧ Aside0 (Below w2.heap.size w2 wx))
        case first =>
          have HF : Hid (Below w2.heap.size w2 w2.drew) := (Below.refl w2.heap.size w2).drew
          have hund : undef = Value.tuple #[] := rfl
          cases sm
          · refine wp_region_held_drew (S := (fun w' => w'.cell? ⟨w.heap.size, 0, none⟩ = some (.int .i64 o.k) ∧ w'.cell? ⟨w.heap.size, 1, none⟩ = some (.string o.c) ∧ w'.cell? ⟨w.heap.size, 2, none⟩ = some (.string o.e) ∧ w'.cell? ⟨w.heap.size, 3, none⟩ = some (.string o.u) ∧ w'.cell? ⟨w.heap.size, 4, none⟩ = some (.int .i64 o.n))) (by kernel_rfl) (by (try dsimp only); exact ⟨x0, x1, x2, x3, x4⟩) (fun hHeld => ?_)
            (refine wpAnyH_take2 (i := 0) (d := some 20) (v := ?_) rfl rfl (by kernel_rfl) (by kernel_rfl) (by kernel_rfl) (fun _ _ _ h => h) (Or.inl ⟨by rfl, ?_⟩) (by assumption) ?_; rotate_left; focus (intro w_ hSw_; (try dsimp only at hSw_); go_simp; try with_reducible rfl); try simp only [Act.put, List.setIfInBounds_toArray, List.set_cons_zero, List.set_cons_succ])
            (refine wpAnyH_take2 (i := 1) (d := some 21) (v := ?_) rfl rfl (by kernel_rfl) (by kernel_rfl) (by kernel_rfl) (fun _ _ _ h => h) (Or.inl ⟨by rfl, ?_⟩) (by assumption) ?_; rotate_left; focus (intro w_ hSw_; (try dsimp only at hSw_); go_simp; try with_reducible rfl); try simp only [Act.put, List.setIfInBounds_toArray, List.set_cons_zero, List.set_cons_succ])
            (refine wpAnyH_take2 (i := 2) (d := some 22) (v := ?_) rfl rfl (by kernel_rfl) (by kernel_rfl) (by kernel_rfl) (fun _ _ _ h => h) (Or.inl ⟨by rfl, ?_⟩) (by assumption) ?_; rotate_left; focus (intro w_ hSw_; (try dsimp only at hSw_); go_simp; try with_reducible rfl); try simp only [Act.put, List.setIfInBounds_toArray, List.set_cons_zero, List.set_cons_succ])
            (refine wpAnyH_ready (rs := [3]) (by kernel_rfl) (by simp) ?_; refine AllReadyH.cons rfl (fun K hK => ?_) AllReadyH.nil; go_simp; go_at_call 25; refine (kept_any o (partsK o.k) HA.out (by omega) _).mono ?_; rintro e w3 ⟨rfl, hb3⟩; have hOy := Lib.hid ((hb3.block w.heap.size (blk_lt hOx.out)).trans hOx.out); refine hK.out _ _ (by (try dsimp only); exact ⟨blk_cell hOy.out 0, blk_cell hOy.out 1, blk_cell hOy.out 2, blk_cell hOy.out 3, blk_cell hOy.out 4⟩) (fun hHeld2 => ?_); clear hK K; clear hHeld; have hHeld := hHeld2; clear hHeld2; try simp only [Act.put, List.setIfInBounds_toArray, List.set_cons_zero, List.set_cons_succ])
            (refine wpAnyH_take2 (i := 4) (d := some 24) (v := ?_) rfl rfl (by kernel_rfl) (by kernel_rfl) (by kernel_rfl) (fun _ _ _ h => h) (Or.inl ⟨by rfl, ?_⟩) (by assumption) ?_; rotate_left; focus (intro w_ hSw_; (try dsimp only at hSw_); go_simp; try with_reducible rfl); try simp only [Act.put, List.setIfInBounds_toArray, List.set_cons_zero, List.set_cons_succ])
            (refine wpAnyH_take2 (i := 5) (d := some 25) (v := ?_) rfl rfl (by kernel_rfl) (by kernel_rfl) (by kernel_rfl) (fun _ _ _ h => h) (Or.inl ⟨by rfl, ?_⟩) (by assumption) ?_; rotate_left; focus (intro w_ hSw_; (try dsimp only at hSw_); go_simp; try with_reducible rfl); try simp only [Act.put, List.setIfInBounds_toArray, List.set_cons_zero, List.set_cons_succ])
            (refine wpAnyH_take2 (i := 6) (d := some 26) (v := undef) rfl rfl (by kernel_rfl) (by kernel_rfl) (by kernel_rfl) (fun _ _ _ h => h) (Or.inr ⟨by kernel_rfl, rfl⟩) (by assumption) ?_; try simp only [Act.put, List.setIfInBounds_toArray, List.set_cons_zero, List.set_cons_succ])
            (refine wpAnyH_take2 (i := 7) (d := some 27) (v := undef) rfl rfl (by kernel_rfl) (by kernel_rfl) (by kernel_rfl) (fun _ _ _ h => h) (Or.inr ⟨by kernel_rfl, rfl⟩) (by assumption) ?_; try simp only [Act.put, List.setIfInBounds_toArray, List.set_cons_zero, List.set_cons_succ])
            (refine wpAnyH_take2 (i := 8) (d := some 28) (v := undef) rfl rfl (by kernel_rfl) (by kernel_rfl) (by kernel_rfl) (fun _ _ _ h => h) (Or.inr ⟨by kernel_rfl, rfl⟩) (by assumption) ?_; try simp only [Act.put, List.setIfInBounds_toArray, List.set_cons_zero, List.set_cons_succ])
            (refine wpAnyH_take2 (i := 9) (d := some 29) (v := undef) rfl rfl (by kernel_rfl) (by kernel_rfl) (by kernel_rfl) (fun _ _ _ h => h) (Or.inr ⟨by kernel_rfl, rfl⟩) (by assumption) ?_; try simp only [Act.put, List.setIfInBounds_toArray, List.set_cons_zero, List.set_cons_succ])
            (refine wpAnyH_take2 (i := 10) (d := some 30) (v := undef) rfl rfl (by kernel_rfl) (by kernel_rfl) (by kernel_rfl) (fun _ _ _ h => h) (Or.inr ⟨by kernel_rfl, rfl⟩) (by assumption) ?_; try simp only [Act.put, List.setIfInBounds_toArray, List.set_cons_zero, List.set_cons_succ])
            (refine wpAnyH_take2 (i := 11) (d := some 31) (v := undef) rfl rfl (by kernel_rfl) (by kernel_rfl) (by kernel_rfl) (fun _ _ _ h => h) (Or.inr ⟨by kernel_rfl, rfl⟩) (by assumption) ?_; try simp only [Act.put, List.setIfInBounds_toArray, List.set_cons_zero, List.set_cons_succ])
            (refine wpAnyH_take2 (i := 12) (d := some 32) (v := undef) rfl rfl (by kernel_rfl) (by kernel_rfl) (by kernel_rfl) (fun _ _ _ h => h) (Or.inr ⟨by kernel_rfl, rfl⟩) (by assumption) ?_; try simp only [Act.put, List.setIfInBounds_toArray, List.set_cons_zero, List.set_cons_succ])
            (refine wpAnyH_take2 (i := 13) (d := some 33) (v := undef) rfl rfl (by kernel_rfl) (by kernel_rfl) (by kernel_rfl) (fun _ _ _ h => h) (Or.inr ⟨by kernel_rfl, rfl⟩) (by assumption) ?_; try simp only [Act.put, List.setIfInBounds_toArray, List.set_cons_zero, List.set_cons_succ])
            (refine wpAnyH_take2 (i := 14) (d := some 34) (v := undef) rfl rfl (by kernel_rfl) (by kernel_rfl) (by kernel_rfl) (fun _ _ _ h => h) (Or.inr ⟨by kernel_rfl, rfl⟩) (by assumption) ?_; try simp only [Act.put, List.setIfInBounds_toArray, List.set_cons_zero, List.set_cons_succ])
            (refine wpAnyH_take2 (i := 15) (d := some 35) (v := undef) rfl rfl (by kernel_rfl) (by kernel_rfl) (by kernel_rfl) (fun _ _ _ h => h) (Or.inr ⟨by kernel_rfl, rfl⟩) (by assumption) ?_; try simp only [Act.put, List.setIfInBounds_toArray, List.set_cons_zero, List.set_cons_succ])
            (refine wpAnyH_take2 (i := 16) (d := some 36) (v := undef) rfl rfl (by kernel_rfl) (by kernel_rfl) (by kernel_rfl) (fun _ _ _ h => h) (Or.inr ⟨by kernel_rfl, rfl⟩) (by assumption) ?_; try simp only [Act.put, List.setIfInBounds_toArray, List.set_cons_zero, List.set_cons_succ])
            (refine wpAnyH_take2 (i := 17) (d := some 37) (v := undef) rfl rfl (by kernel_rfl) (by kernel_rfl) (by kernel_rfl) (fun _ _ _ h => h) (Or.inr ⟨by kernel_rfl, rfl⟩) (by assumption) ?_; try simp only [Act.put, List.setIfInBounds_toArray, List.set_cons_zero, List.set_cons_succ])
            (refine wpAnyH_take2 (i := 18) (d := some 38) (v := undef) rfl rfl (by kernel_rfl) (by kernel_rfl) (by kernel_rfl) (fun _ _ _ h => h) (Or.inr ⟨by kernel_rfl, rfl⟩) (by assumption) ?_; try simp only [Act.put, List.setIfInBounds_toArray, List.set_cons_zero, List.set_cons_succ])
            (refine wpAnyH_take2 (i := 19) (d := some 39) (v := ?_) rfl rfl (by kernel_rfl) (by kernel_rfl) (by kernel_rfl) (fun _ _ _ h => h) (Or.inl ⟨by rfl, ?_⟩) (by assumption) ?_; rotate_left; focus (intro w_ hSw_; (try dsimp only at hSw_); go_simp; try with_reducible rfl); try simp only [Act.put, List.setIfInBounds_toArray, List.set_cons_zero, List.set_cons_succ])
            refine wpAnyH_done (by kernel_rfl) ?_ _
            go_wp2_with fail; go_meet; exact ⟨by rw [hbad.out]; rfl, ⟨HF.out.trans hb3⟩⟩
          · by_cases k3 : o.k = 3
            · have kb : (o.k == 3) = true := beq_iff_eq.2 k3
              have K3 := Lib.hid k3
              clear k3
              by_cases n1 : o.n < 1
              · have nb : decide (o.n < 1) = true := decide_eq_true n1
                refine wp_region_held_drew (S := (fun w' => w'.cell? ⟨w.heap.size, 0, none⟩ = some (.int .i64 o.k) ∧ w'.cell? ⟨w.heap.size, 1, none⟩ = some (.string o.c) ∧ w'.cell? ⟨w.heap.size, 2, none⟩ = some (.string o.e) ∧ w'.cell? ⟨w.heap.size, 3, none⟩ = some (.string o.u) ∧ w'.cell? ⟨w.heap.size, 4, none⟩ = some (.int .i64 o.n))) (by kernel_rfl) (by (try dsimp only); exact ⟨x0, x1, x2, x3, x4⟩) (fun hHeld => ?_)
                (refine wpAnyH_take2 (i := 0) (d := some 20) (v := ?_) rfl rfl (by kernel_rfl) (by kernel_rfl) (by kernel_rfl) (fun _ _ _ h => h) (Or.inl ⟨by rfl, ?_⟩) (by assumption) ?_; rotate_left; focus (intro w_ hSw_; (try dsimp only at hSw_); go_simp; try with_reducible rfl); try simp only [Act.put, List.setIfInBounds_toArray, List.set_cons_zero, List.set_cons_succ])
                (refine wpAnyH_take2 (i := 1) (d := some 21) (v := ?_) rfl rfl (by kernel_rfl) (by kernel_rfl) (by kernel_rfl) (fun _ _ _ h => h) (Or.inl ⟨by rfl, ?_⟩) (by assumption) ?_; rotate_left; focus (intro w_ hSw_; (try dsimp only at hSw_); go_simp; try with_reducible rfl); try simp only [Act.put, List.setIfInBounds_toArray, List.set_cons_zero, List.set_cons_succ])
                (refine wpAnyH_take2 (i := 2) (d := some 22) (v := ?_) rfl rfl (by kernel_rfl) (by kernel_rfl) (by kernel_rfl) (fun _ _ _ h => h) (Or.inl ⟨by rfl, ?_⟩) (by assumption) ?_; rotate_left; focus (intro w_ hSw_; (try dsimp only at hSw_); go_simp; try with_reducible rfl); try simp only [Act.put, List.setIfInBounds_toArray, List.set_cons_zero, List.set_cons_succ])
                (refine wpAnyH_ready (rs := [3]) (by kernel_rfl) (by simp) ?_; refine AllReadyH.cons rfl (fun K hK => ?_) AllReadyH.nil; go_simp; go_at_call 25; refine (kept_any o (partsK o.k) HA.out (by omega) _).mono ?_; rintro e w3 ⟨rfl, hb3⟩; have hOy := Lib.hid ((hb3.block w.heap.size (blk_lt hOx.out)).trans hOx.out); refine hK.out _ _ (by (try dsimp only); exact ⟨blk_cell hOy.out 0, blk_cell hOy.out 1, blk_cell hOy.out 2, blk_cell hOy.out 3, blk_cell hOy.out 4⟩) (fun hHeld2 => ?_); clear hK K; clear hHeld; have hHeld := hHeld2; clear hHeld2; try simp only [Act.put, List.setIfInBounds_toArray, List.set_cons_zero, List.set_cons_succ])
                (refine wpAnyH_take2 (i := 4) (d := some 24) (v := ?_) rfl rfl (by kernel_rfl) (by kernel_rfl) (by kernel_rfl) (fun _ _ _ h => h) (Or.inl ⟨by rfl, ?_⟩) (by assumption) ?_; rotate_left; focus (intro w_ hSw_; (try dsimp only at hSw_); go_simp; try with_reducible rfl); try simp only [Act.put, List.setIfInBounds_toArray, List.set_cons_zero, List.set_cons_succ])
                (refine wpAnyH_take2 (i := 5) (d := some 25) (v := ?_) rfl rfl (by kernel_rfl) (by kernel_rfl) (by kernel_rfl) (fun _ _ _ h => h) (Or.inl ⟨by rfl, ?_⟩) (by assumption) ?_; rotate_left; focus (intro w_ hSw_; (try dsimp only at hSw_); go_simp; try with_reducible rfl); try simp only [Act.put, List.setIfInBounds_toArray, List.set_cons_zero, List.set_cons_succ])
                (refine wpAnyH_take2 (i := 6) (d := some 26) (v := ?_) rfl rfl (by kernel_rfl) (by kernel_rfl) (by kernel_rfl) (fun _ _ _ h => h) (Or.inl ⟨by kernel_rfl, ?_⟩) (by assumption) ?_; rotate_left; focus (intro w_ hSw_; (try dsimp only at hSw_); go_simp; try with_reducible rfl); try simp only [Act.put, List.setIfInBounds_toArray, List.set_cons_zero, List.set_cons_succ])
                (refine wpAnyH_take2 (i := 7) (d := some 27) (v := ?_) rfl rfl (by kernel_rfl) (by kernel_rfl) (by kernel_rfl) (fun _ _ _ h => h) (Or.inl ⟨by kernel_rfl, ?_⟩) (by assumption) ?_; rotate_left; focus (intro w_ hSw_; (try dsimp only at hSw_); go_simp; try with_reducible rfl); try simp only [Act.put, List.setIfInBounds_toArray, List.set_cons_zero, List.set_cons_succ])
                (refine wpAnyH_take2 (i := 8) (d := some 28) (v := ?_) rfl rfl (by kernel_rfl) (by kernel_rfl) (by kernel_rfl) (fun _ _ _ h => h) (Or.inl ⟨by kernel_rfl, ?_⟩) (by assumption) ?_; rotate_left; focus (intro w_ hSw_; (try dsimp only at hSw_); go_simp; try with_reducible rfl); try simp only [Act.put, List.setIfInBounds_toArray, List.set_cons_zero, List.set_cons_succ])
                (refine wpAnyH_take2 (i := 9) (d := some 29) (v := ?_) rfl rfl (by kernel_rfl) (by kernel_rfl) (by kernel_rfl) (fun _ _ _ h => h) (Or.inl ⟨by kernel_rfl, ?_⟩) (by assumption) ?_; rotate_left; focus (intro w_ hSw_; (try dsimp only at hSw_); go_simp; try with_reducible rfl); try simp only [Act.put, List.setIfInBounds_toArray, List.set_cons_zero, List.set_cons_succ])
                (refine wpAnyH_take2 (i := 10) (d := some 30) (v := ?_) rfl rfl (by kernel_rfl) (by kernel_rfl) (by kernel_rfl) (fun _ _ _ h => h) (Or.inl ⟨by kernel_rfl, ?_⟩) (by assumption) ?_; rotate_left; focus (intro w_ hSw_; (try dsimp only at hSw_); go_simp; try with_reducible rfl); try simp only [Act.put, List.setIfInBounds_toArray, List.set_cons_zero, List.set_cons_succ])
                (refine wpAnyH_take2 (i := 11) (d := some 31) (v := ?_) rfl rfl (by kernel_rfl) (by kernel_rfl) (by kernel_rfl) (fun _ _ _ h => h) (Or.inl ⟨by kernel_rfl, ?_⟩) (by assumption) ?_; rotate_left; focus (intro w_ hSw_; (try dsimp only at hSw_); go_simp; try with_reducible rfl); try simp only [Act.put, List.setIfInBounds_toArray, List.set_cons_zero, List.set_cons_succ])
                (refine wpAnyH_take2 (i := 12) (d := some 32) (v := ?_) rfl rfl (by kernel_rfl) (by kernel_rfl) (by kernel_rfl) (fun _ _ _ h => h) (Or.inl ⟨by kernel_rfl, ?_⟩) (by assumption) ?_; rotate_left; focus (intro w_ hSw_; (try dsimp only at hSw_); go_simp; try with_reducible rfl); try simp only [Act.put, List.setIfInBounds_toArray, List.set_cons_zero, List.set_cons_succ])
                (refine wpAnyH_take2 (i := 13) (d := some 33) (v := ?_) rfl rfl (by kernel_rfl) (by kernel_rfl) (by kernel_rfl) (fun _ _ _ h => h) (Or.inl ⟨by kernel_rfl, ?_⟩) (by assumption) ?_; rotate_left; focus (intro w_ hSw_; (try dsimp only at hSw_); go_simp; try with_reducible rfl); try simp only [Act.put, List.setIfInBounds_toArray, List.set_cons_zero, List.set_cons_succ])
                (refine wpAnyH_take2 (i := 14) (d := some 34) (v := undef) rfl rfl (by kernel_rfl) (by kernel_rfl) (by kernel_rfl) (fun _ _ _ h => h) (Or.inr ⟨by kernel_rfl, rfl⟩) (by assumption) ?_; try simp only [Act.put, List.setIfInBounds_toArray, List.set_cons_zero, List.set_cons_succ])
                (refine wpAnyH_take2 (i := 15) (d := some 35) (v := undef) rfl rfl (by kernel_rfl) (by kernel_rfl) (by kernel_rfl) (fun _ _ _ h => h) (Or.inr ⟨by kernel_rfl, rfl⟩) (by assumption) ?_; try simp only [Act.put, List.setIfInBounds_toArray, List.set_cons_zero, List.set_cons_succ])
                (refine wpAnyH_take2 (i := 16) (d := some 36) (v := undef) rfl rfl (by kernel_rfl) (by kernel_rfl) (by kernel_rfl) (fun _ _ _ h => h) (Or.inr ⟨by kernel_rfl, rfl⟩) (by assumption) ?_; try simp only [Act.put, List.setIfInBounds_toArray, List.set_cons_zero, List.set_cons_succ])
                (refine wpAnyH_take2 (i := 17) (d := some 37) (v := ?_) rfl rfl (by kernel_rfl) (by kernel_rfl) (by kernel_rfl) (fun _ _ _ h => h) (Or.inl ⟨by kernel_rfl, ?_⟩) (by assumption) ?_; rotate_left; focus (intro w_ hSw_; (try dsimp only at hSw_); go_simp; try with_reducible rfl); try simp only [Act.put, List.setIfInBounds_toArray, List.set_cons_zero, List.set_cons_succ])
                (refine wpAnyH_take2 (i := 18) (d := some 38) (v := ?_) rfl rfl (by kernel_rfl) (by kernel_rfl) (by kernel_rfl) (fun _ _ _ h => h) (Or.inl ⟨by kernel_rfl, ?_⟩) (by assumption) ?_; rotate_left; focus (intro w_ hSw_; (try dsimp only at hSw_); go_simp; try with_reducible rfl); try simp only [Act.put, List.setIfInBounds_toArray, List.set_cons_zero, List.set_cons_succ])
                (refine wpAnyH_take2 (i := 19) (d := some 39) (v := ?_) rfl rfl (by kernel_rfl) (by kernel_rfl) (by kernel_rfl) (fun _ _ _ h => h) (Or.inl ⟨by rfl, ?_⟩) (by assumption) ?_; rotate_left; focus (intro w_ hSw_; (try dsimp only at hSw_); go_simp; try with_reducible rfl); try simp only [Act.put, List.setIfInBounds_toArray, List.set_cons_zero, List.set_cons_succ])
                refine wpAnyH_done (by kernel_rfl) ?_ _
                go_wp2_with fail; go_meet; exact ⟨by rw [hbad.out]; simp [K3.out, n1], ⟨HF.out.trans hb3⟩⟩
              · have nb : decide (o.n < 1) = false := decide_eq_false n1
                refine wp_region_held_drew (S := (fun w' => w'.cell? ⟨w.heap.size, 0, none⟩ = some (.int .i64 o.k) ∧ w'.cell? ⟨w.heap.size, 1, none⟩ = some (.string o.c) ∧ w'.cell? ⟨w.heap.size, 2, none⟩ = some (.string o.e) ∧ w'.cell? ⟨w.heap.size, 3, none⟩ = some (.string o.u) ∧ w'.cell? ⟨w.heap.size, 4, none⟩ = some (.int .i64 o.n))) (by kernel_rfl) (by (try dsimp only); exact ⟨x0, x1, x2, x3, x4⟩) (fun hHeld => ?_)
                (refine wpAnyH_take2 (i := 0) (d := some 20) (v := ?_) rfl rfl (by kernel_rfl) (by kernel_rfl) (by kernel_rfl) (fun _ _ _ h => h) (Or.inl ⟨by rfl, ?_⟩) (by assumption) ?_; rotate_left; focus (intro w_ hSw_; (try dsimp only at hSw_); go_simp; try with_reducible rfl); try simp only [Act.put, List.setIfInBounds_toArray, List.set_cons_zero, List.set_cons_succ])
                (refine wpAnyH_take2 (i := 1) (d := some 21) (v := ?_) rfl rfl (by kernel_rfl) (by kernel_rfl) (by kernel_rfl) (fun _ _ _ h => h) (Or.inl ⟨by rfl, ?_⟩) (by assumption) ?_; rotate_left; focus (intro w_ hSw_; (try dsimp only at hSw_); go_simp; try with_reducible rfl); try simp only [Act.put, List.setIfInBounds_toArray, List.set_cons_zero, List.set_cons_succ])
                (refine wpAnyH_take2 (i := 2) (d := some 22) (v := ?_) rfl rfl (by kernel_rfl) (by kernel_rfl) (by kernel_rfl) (fun _ _ _ h => h) (Or.inl ⟨by rfl, ?_⟩) (by assumption) ?_; rotate_left; focus (intro w_ hSw_; (try dsimp only at hSw_); go_simp; try with_reducible rfl); try simp only [Act.put, List.setIfInBounds_toArray, List.set_cons_zero, List.set_cons_succ])
                (refine wpAnyH_ready (rs := [3]) (by kernel_rfl) (by simp) ?_; refine AllReadyH.cons rfl (fun K hK => ?_) AllReadyH.nil; go_simp; go_at_call 25; refine (kept_any o (partsK o.k) HA.out (by omega) _).mono ?_; rintro e w3 ⟨rfl, hb3⟩; have hOy := Lib.hid ((hb3.block w.heap.size (blk_lt hOx.out)).trans hOx.out); refine hK.out _ _ (by (try dsimp only); exact ⟨blk_cell hOy.out 0, blk_cell hOy.out 1, blk_cell hOy.out 2, blk_cell hOy.out 3, blk_cell hOy.out 4⟩) (fun hHeld2 => ?_); clear hK K; clear hHeld; have hHeld := hHeld2; clear hHeld2; try simp only [Act.put, List.setIfInBounds_toArray, List.set_cons_zero, List.set_cons_succ])
                (refine wpAnyH_take2 (i := 4) (d := some 24) (v := ?_) rfl rfl (by kernel_rfl) (by kernel_rfl) (by kernel_rfl) (fun _ _ _ h => h) (Or.inl ⟨by rfl, ?_⟩) (by assumption) ?_; rotate_left; focus (intro w_ hSw_; (try dsimp only at hSw_); go_simp; try with_reducible rfl); try simp only [Act.put, List.setIfInBounds_toArray, List.set_cons_zero, List.set_cons_succ])
                (refine wpAnyH_take2 (i := 5) (d := some 25) (v := ?_) rfl rfl (by kernel_rfl) (by kernel_rfl) (by kernel_rfl) (fun _ _ _ h => h) (Or.inl ⟨by rfl, ?_⟩) (by assumption) ?_; rotate_left; focus (intro w_ hSw_; (try dsimp only at hSw_); go_simp; try with_reducible rfl); try simp only [Act.put, List.setIfInBounds_toArray, List.set_cons_zero, List.set_cons_succ])
                (refine wpAnyH_take2 (i := 6) (d := some 26) (v := ?_) rfl rfl (by kernel_rfl) (by kernel_rfl) (by kernel_rfl) (fun _ _ _ h => h) (Or.inl ⟨by kernel_rfl, ?_⟩) (by assumption) ?_; rotate_left; focus (intro w_ hSw_; (try dsimp only at hSw_); go_simp; try with_reducible rfl); try simp only [Act.put, List.setIfInBounds_toArray, List.set_cons_zero, List.set_cons_succ])
                (refine wpAnyH_take2 (i := 7) (d := some 27) (v := ?_) rfl rfl (by kernel_rfl) (by kernel_rfl) (by kernel_rfl) (fun _ _ _ h => h) (Or.inl ⟨by kernel_rfl, ?_⟩) (by assumption) ?_; rotate_left; focus (intro w_ hSw_; (try dsimp only at hSw_); go_simp; try with_reducible rfl); try simp only [Act.put, List.setIfInBounds_toArray, List.set_cons_zero, List.set_cons_succ])
                (refine wpAnyH_take2 (i := 8) (d := some 28) (v := ?_) rfl rfl (by kernel_rfl) (by kernel_rfl) (by kernel_rfl) (fun _ _ _ h => h) (Or.inl ⟨by kernel_rfl, ?_⟩) (by assumption) ?_; rotate_left; focus (intro w_ hSw_; (try dsimp only at hSw_); go_simp; try with_reducible rfl); try simp only [Act.put, List.setIfInBounds_toArray, List.set_cons_zero, List.set_cons_succ])
                (refine wpAnyH_take2 (i := 9) (d := some 29) (v := ?_) rfl rfl (by kernel_rfl) (by kernel_rfl) (by kernel_rfl) (fun _ _ _ h => h) (Or.inl ⟨by kernel_rfl, ?_⟩) (by assumption) ?_; rotate_left; focus (intro w_ hSw_; (try dsimp only at hSw_); go_simp; try with_reducible rfl); try simp only [Act.put, List.setIfInBounds_toArray, List.set_cons_zero, List.set_cons_succ])
                (refine wpAnyH_take2 (i := 10) (d := some 30) (v := ?_) rfl rfl (by kernel_rfl) (by kernel_rfl) (by kernel_rfl) (fun _ _ _ h => h) (Or.inl ⟨by kernel_rfl, ?_⟩) (by assumption) ?_; rotate_left; focus (intro w_ hSw_; (try dsimp only at hSw_); go_simp; try with_reducible rfl); try simp only [Act.put, List.setIfInBounds_toArray, List.set_cons_zero, List.set_cons_succ])
                (refine wpAnyH_take2 (i := 11) (d := some 31) (v := ?_) rfl rfl (by kernel_rfl) (by kernel_rfl) (by kernel_rfl) (fun _ _ _ h => h) (Or.inl ⟨by kernel_rfl, ?_⟩) (by assumption) ?_; rotate_left; focus (intro w_ hSw_; (try dsimp only at hSw_); go_simp; try with_reducible rfl); try simp only [Act.put, List.setIfInBounds_toArray, List.set_cons_zero, List.set_cons_succ])
                (refine wpAnyH_take2 (i := 12) (d := some 32) (v := ?_) rfl rfl (by kernel_rfl) (by kernel_rfl) (by kernel_rfl) (fun _ _ _ h => h) (Or.inl ⟨by kernel_rfl, ?_⟩) (by assumption) ?_; rotate_left; focus (intro w_ hSw_; (try dsimp only at hSw_); go_simp; try with_reducible rfl); try simp only [Act.put, List.setIfInBounds_toArray, List.set_cons_zero, List.set_cons_succ])
                (refine wpAnyH_take2 (i := 13) (d := some 33) (v := ?_) rfl rfl (by kernel_rfl) (by kernel_rfl) (by kernel_rfl) (fun _ _ _ h => h) (Or.inl ⟨by kernel_rfl, ?_⟩) (by assumption) ?_; rotate_left; focus (intro w_ hSw_; (try dsimp only at hSw_); go_simp; try with_reducible rfl); try simp only [Act.put, List.setIfInBounds_toArray, List.set_cons_zero, List.set_cons_succ])
                (refine wpAnyH_take2 (i := 14) (d := some 34) (v := ?_) rfl rfl (by kernel_rfl) (by kernel_rfl) (by kernel_rfl) (fun _ _ _ h => h) (Or.inl ⟨by kernel_rfl, ?_⟩) (by assumption) ?_; rotate_left; focus (intro w_ hSw_; (try dsimp only at hSw_); go_simp; try with_reducible rfl); try simp only [Act.put, List.setIfInBounds_toArray, List.set_cons_zero, List.set_cons_succ])
                (refine wpAnyH_take2 (i := 15) (d := some 35) (v := ?_) rfl rfl (by kernel_rfl) (by kernel_rfl) (by kernel_rfl) (fun _ _ _ h => h) (Or.inl ⟨by kernel_rfl, ?_⟩) (by assumption) ?_; rotate_left; focus (intro w_ hSw_; (try dsimp only at hSw_); go_simp; try with_reducible rfl); try simp only [Act.put, List.setIfInBounds_toArray, List.set_cons_zero, List.set_cons_succ])
                (refine wpAnyH_take2 (i := 16) (d := some 36) (v := ?_) rfl rfl (by kernel_rfl) (by kernel_rfl) (by kernel_rfl) (fun _ _ _ h => h) (Or.inl ⟨by kernel_rfl, ?_⟩) (by assumption) ?_; rotate_left; focus (intro w_ hSw_; (try dsimp only at hSw_); go_simp; try with_reducible rfl); try simp only [Act.put, List.setIfInBounds_toArray, List.set_cons_zero, List.set_cons_succ])
                (refine wpAnyH_take2 (i := 17) (d := some 37) (v := ?_) rfl rfl (by kernel_rfl) (by kernel_rfl) (by kernel_rfl) (fun _ _ _ h => h) (Or.inl ⟨by kernel_rfl, ?_⟩) (by assumption) ?_; rotate_left; focus (intro w_ hSw_; (try dsimp only at hSw_); go_simp; try with_reducible rfl); try simp only [Act.put, List.setIfInBounds_toArray, List.set_cons_zero, List.set_cons_succ])
                (refine wpAnyH_take2 (i := 18) (d := some 38) (v := ?_) rfl rfl (by kernel_rfl) (by kernel_rfl) (by kernel_rfl) (fun _ _ _ h => h) (Or.inl ⟨by kernel_rfl, ?_⟩) (by assumption) ?_; rotate_left; focus (intro w_ hSw_; (try dsimp only at hSw_); go_simp; try with_reducible rfl); try simp only [Act.put, List.setIfInBounds_toArray, List.set_cons_zero, List.set_cons_succ])
                (refine wpAnyH_take2 (i := 19) (d := some 39) (v := ?_) rfl rfl (by kernel_rfl) (by kernel_rfl) (by kernel_rfl) (fun _ _ _ h => h) (Or.inl ⟨by rfl, ?_⟩) (by assumption) ?_; rotate_left; focus (intro w_ hSw_; (try dsimp only at hSw_); go_simp; try with_reducible rfl); try simp only [Act.put, List.setIfInBounds_toArray, List.set_cons_zero, List.set_cons_succ])
                refine wpAnyH_done (by kernel_rfl) ?_ _
                go_wp2_with fail; go_meet; exact ⟨by rw [hbad.out, kb, nb]; rfl, ⟨HF.out.trans hb3⟩⟩
            · have kb : (o.k == 3) = false := beq_eq_false_iff_ne.2 k3
              refine wp_region_held_drew (S := (fun w' => w'.cell? ⟨w.heap.size, 0, none⟩ = some (.int .i64 o.k) ∧ w'.cell? ⟨w.heap.size, 1, none⟩ = some (.string o.c) ∧ w'.cell? ⟨w.heap.size, 2, none⟩ = some (.string o.e) ∧ w'.cell? ⟨w.heap.size, 3, none⟩ = some (.string o.u) ∧ w'.cell? ⟨w.heap.size, 4, none⟩ = some (.int .i64 o.n))) (by kernel_rfl) (by (try dsimp only); exact ⟨x0, x1, x2, x3, x4⟩) (fun hHeld => ?_)
              (refine wpAnyH_take2 (i := 0) (d := some 20) (v := ?_) rfl rfl (by kernel_rfl) (by kernel_rfl) (by kernel_rfl) (fun _ _ _ h => h) (Or.inl ⟨by rfl, ?_⟩) (by assumption) ?_; rotate_left; focus (intro w_ hSw_; (try dsimp only at hSw_); go_simp; try with_reducible rfl); try simp only [Act.put, List.setIfInBounds_toArray, List.set_cons_zero, List.set_cons_succ])
              (refine wpAnyH_take2 (i := 1) (d := some 21) (v := ?_) rfl rfl (by kernel_rfl) (by kernel_rfl) (by kernel_rfl) (fun _ _ _ h => h) (Or.inl ⟨by rfl, ?_⟩) (by assumption) ?_; rotate_left; focus (intro w_ hSw_; (try dsimp only at hSw_); go_simp; try with_reducible rfl); try simp only [Act.put, List.setIfInBounds_toArray, List.set_cons_zero, List.set_cons_succ])
              (refine wpAnyH_take2 (i := 2) (d := some 22) (v := ?_) rfl rfl (by kernel_rfl) (by kernel_rfl) (by kernel_rfl) (fun _ _ _ h => h) (Or.inl ⟨by rfl, ?_⟩) (by assumption) ?_; rotate_left; focus (intro w_ hSw_; (try dsimp only at hSw_); go_simp; try with_reducible rfl); try simp only [Act.put, List.setIfInBounds_toArray, List.set_cons_zero, List.set_cons_succ])
              (refine wpAnyH_ready (rs := [3]) (by kernel_rfl) (by simp) ?_; refine AllReadyH.cons rfl (fun K hK => ?_) AllReadyH.nil; go_simp; go_at_call 25; refine (kept_any o (partsK o.k) HA.out (by omega) _).mono ?_; rintro e w3 ⟨rfl, hb3⟩; have hOy := Lib.hid ((hb3.block w.heap.size (blk_lt hOx.out)).trans hOx.out); refine hK.out _ _ (by (try dsimp only); exact ⟨blk_cell hOy.out 0, blk_cell hOy.out 1, blk_cell hOy.out 2, blk_cell hOy.out 3, blk_cell hOy.out 4⟩) (fun hHeld2 => ?_); clear hK K; clear hHeld; have hHeld := hHeld2; clear hHeld2; try simp only [Act.put, List.setIfInBounds_toArray, List.set_cons_zero, List.set_cons_succ])
              (refine wpAnyH_take2 (i := 4) (d := some 24) (v := ?_) rfl rfl (by kernel_rfl) (by kernel_rfl) (by kernel_rfl) (fun _ _ _ h => h) (Or.inl ⟨by rfl, ?_⟩) (by assumption) ?_; rotate_left; focus (intro w_ hSw_; (try dsimp only at hSw_); go_simp; try with_reducible rfl); try simp only [Act.put, List.setIfInBounds_toArray, List.set_cons_zero, List.set_cons_succ])
              (refine wpAnyH_take2 (i := 5) (d := some 25) (v := ?_) rfl rfl (by kernel_rfl) (by kernel_rfl) (by kernel_rfl) (fun _ _ _ h => h) (Or.inl ⟨by rfl, ?_⟩) (by assumption) ?_; rotate_left; focus (intro w_ hSw_; (try dsimp only at hSw_); go_simp; try with_reducible rfl); try simp only [Act.put, List.setIfInBounds_toArray, List.set_cons_zero, List.set_cons_succ])
              (refine wpAnyH_take2 (i := 6) (d := some 26) (v := ?_) rfl rfl (by kernel_rfl) (by kernel_rfl) (by kernel_rfl) (fun _ _ _ h => h) (Or.inl ⟨by kernel_rfl, ?_⟩) (by assumption) ?_; rotate_left; focus (intro w_ hSw_; (try dsimp only at hSw_); go_simp; try with_reducible rfl); try simp only [Act.put, List.setIfInBounds_toArray, List.set_cons_zero, List.set_cons_succ])
              (refine wpAnyH_take2 (i := 7) (d := some 27) (v := ?_) rfl rfl (by kernel_rfl) (by kernel_rfl) (by kernel_rfl) (fun _ _ _ h => h) (Or.inl ⟨by kernel_rfl, ?_⟩) (by assumption) ?_; rotate_left; focus (intro w_ hSw_; (try dsimp only at hSw_); go_simp; try with_reducible rfl); try simp only [Act.put, List.setIfInBounds_toArray, List.set_cons_zero, List.set_cons_succ])
              (refine wpAnyH_take2 (i := 8) (d := some 28) (v := ?_) rfl rfl (by kernel_rfl) (by kernel_rfl) (by kernel_rfl) (fun _ _ _ h => h) (Or.inl ⟨by kernel_rfl, ?_⟩) (by assumption) ?_; rotate_left; focus (intro w_ hSw_; (try dsimp only at hSw_); go_simp; try with_reducible rfl); try simp only [Act.put, List.setIfInBounds_toArray, List.set_cons_zero, List.set_cons_succ])
              (refine wpAnyH_take2 (i := 9) (d := some 29) (v := ?_) rfl rfl (by kernel_rfl) (by kernel_rfl) (by kernel_rfl) (fun _ _ _ h => h) (Or.inl ⟨by kernel_rfl, ?_⟩) (by assumption) ?_; rotate_left; focus (intro w_ hSw_; (try dsimp only at hSw_); go_simp; try with_reducible rfl); try simp only [Act.put, List.setIfInBounds_toArray, List.set_cons_zero, List.set_cons_succ])
              (refine wpAnyH_take2 (i := 10) (d := some 30) (v := undef) rfl rfl (by kernel_rfl) (by kernel_rfl) (by kernel_rfl) (fun _ _ _ h => h) (Or.inr ⟨by kernel_rfl, rfl⟩) (by assumption) ?_; try simp only [Act.put, List.setIfInBounds_toArray, List.set_cons_zero, List.set_cons_succ])
              (refine wpAnyH_take2 (i := 11) (d := some 31) (v := undef) rfl rfl (by kernel_rfl) (by kernel_rfl) (by kernel_rfl) (fun _ _ _ h => h) (Or.inr ⟨by kernel_rfl, rfl⟩) (by assumption) ?_; try simp only [Act.put, List.setIfInBounds_toArray, List.set_cons_zero, List.set_cons_succ])
              (refine wpAnyH_take2 (i := 12) (d := some 32) (v := undef) rfl rfl (by kernel_rfl) (by kernel_rfl) (by kernel_rfl) (fun _ _ _ h => h) (Or.inr ⟨by kernel_rfl, rfl⟩) (by assumption) ?_; try simp only [Act.put, List.setIfInBounds_toArray, List.set_cons_zero, List.set_cons_succ])
              (refine wpAnyH_take2 (i := 13) (d := some 33) (v := undef) rfl rfl (by kernel_rfl) (by kernel_rfl) (by kernel_rfl) (fun _ _ _ h => h) (Or.inr ⟨by kernel_rfl, rfl⟩) (by assumption) ?_; try simp only [Act.put, List.setIfInBounds_toArray, List.set_cons_zero, List.set_cons_succ])
              (refine wpAnyH_take2 (i := 14) (d := some 34) (v := undef) rfl rfl (by kernel_rfl) (by kernel_rfl) (by kernel_rfl) (fun _ _ _ h => h) (Or.inr ⟨by kernel_rfl, rfl⟩) (by assumption) ?_; try simp only [Act.put, List.setIfInBounds_toArray, List.set_cons_zero, List.set_cons_succ])
              (refine wpAnyH_take2 (i := 15) (d := some 35) (v := undef) rfl rfl (by kernel_rfl) (by kernel_rfl) (by kernel_rfl) (fun _ _ _ h => h) (Or.inr ⟨by kernel_rfl, rfl⟩) (by assumption) ?_; try simp only [Act.put, List.setIfInBounds_toArray, List.set_cons_zero, List.set_cons_succ])
              (refine wpAnyH_take2 (i := 16) (d := some 36) (v := undef) rfl rfl (by kernel_rfl) (by kernel_rfl) (by kernel_rfl) (fun _ _ _ h => h) (Or.inr ⟨by kernel_rfl, rfl⟩) (by assumption) ?_; try simp only [Act.put, List.setIfInBounds_toArray, List.set_cons_zero, List.set_cons_succ])
              (refine wpAnyH_take2 (i := 17) (d := some 37) (v := undef) rfl rfl (by kernel_rfl) (by kernel_rfl) (by kernel_rfl) (fun _ _ _ h => h) (Or.inr ⟨by kernel_rfl, rfl⟩) (by assumption) ?_; try simp only [Act.put, List.setIfInBounds_toArray, List.set_cons_zero, List.set_cons_succ])
              (refine wpAnyH_take2 (i := 18) (d := some 38) (v := ?_) rfl rfl (by kernel_rfl) (by kernel_rfl) (by kernel_rfl) (fun _ _ _ h => h) (Or.inl ⟨by kernel_rfl, ?_⟩) (by assumption) ?_; rotate_left; focus (intro w_ hSw_; (try dsimp only at hSw_); go_simp; try with_reducible rfl); try simp only [Act.put, List.setIfInBounds_toArray, List.set_cons_zero, List.set_cons_succ])
              (refine wpAnyH_take2 (i := 19) (d := some 39) (v := ?_) rfl rfl (by kernel_rfl) (by kernel_rfl) (by kernel_rfl) (fun _ _ _ h => h) (Or.inl ⟨by rfl, ?_⟩) (by assumption) ?_; rotate_left; focus (intro w_ hSw_; (try dsimp only at hSw_); go_simp; try with_reducible rfl); try simp only [Act.put, List.setIfInBounds_toArray, List.set_cons_zero, List.set_cons_succ])
              refine wpAnyH_done (by kernel_rfl) ?_ _
              go_wp2_with fail; go_meet; exact ⟨by rw [hbad.out]; simp [k3], ⟨HF.out.trans hb3⟩⟩
        case rest =>
          obtain ⟨rfl, HBy⟩ := hcut
          have hB2 : Below w.heap.size w w2 := hb0.out.trans (HBx.out.mono (by have := hb0.out.size; omega))
          have hB3 := Aside0.mk (hB2.trans (HBy.out.mono hB2.size))
          have hO3 := Aside0.mk ((HBy.out.block w.heap.size (blk_lt hOx.out)).trans hOx.out)
          have hmay : Hid (mayO o = (!(badO o) && mayL o (partsK o.k).data.toList)) := by unfold mayO; rw [decide_eq_true h1, decide_eq_true h9]; rfl
          clear hB2 HBx HBy x0 x1 x2 x3 x4 hlt hne hbad hx
          have hby := Lib.hid (partsK_bytes o.k)
          generalize hP : partsK o.k = P at *
          have hasc := HA.out
          cases hB : badO o
          · rw [hB] at hmay
            go_wp2_with fail
            have hI0 := Aside0.mk (World.iter_heap wc P 0)
            have hB4 := Aside0.mk (below_alloc hB3.out (.stringIter P 0))
            have hO4 := Aside0.mk (blk_alloc hO3.out (.stringIter P 0))
            have hI1 : w.heap.size < wc.heap.size := blk_lt hO3.out
            go_loopw [5] (fun _ wr => ∃ pos : Nat, pos ≤ P.size ∧ Aside0 (mayL o (P.data.toList.drop pos) = mayL o P.data.toList) ∧ wr.heap[wc.heap.size]? = some (.stringIter P pos) ∧ Aside0 (wr.heap[w.heap.size]? = some (.cells #[Value.int IntKind.i64 o.k, Value.string o.c, Value.string o.e, Value.string o.u, Value.int IntKind.i64 o.n] 23 (0, 0))) ∧ Aside0 (Below w.heap.size w wr)) (fun _ wr => P.size - wr.iterPos wc.heap.size)
            case atStart => exact ⟨0, Nat.zero_le _, ⟨rfl⟩, hI0.out, ⟨hO4.out⟩, ⟨hB4.out⟩⟩
            case round =>
              clear hI0 hB4 hO4
              obtain ⟨pos, hps, HK, hk, HO, HB⟩ := hrel
              by_cases hp : pos < P.size
              · have h128 := hasc pos hp
                have hnext : ∀ ty, (Instr.next (.pointer (some ⟨wc.heap.size, 0, none⟩)) true ty).run Tryd.prog wr = _ := fun ty => Lib.run_next_ascii_at wr wc.heap.size P pos ty hk hp h128
                have hk1 := Lib.iterAt_heap wr wc.heap.size P pos (pos + 1) hk
                have HB1 := Aside0.mk (Lib.below_iterAt HB.out (show w.heap.size ≤ wc.heap.size by omega) P (pos + 1))
                have hO1 := (Lib.iterAt_other wr wc.heap.size w.heap.size P (pos + 1) (by omega)).trans HO.out
                have hmu : wr.iterPos wc.heap.size = pos := by simp [World.iterPos, hk]
                generalize wr.iterAt wc.heap.size P (pos + 1) = W1 at hnext hk1 HB1 hO1
                have y0 : W1.cell? ⟨w.heap.size, 0, none⟩ = some (.int .i64 o.k) := blk_cell hO1 0
                have y1 : W1.cell? ⟨w.heap.size, 1, none⟩ = some (.string o.c) := blk_cell hO1 1
                have y2 : W1.cell? ⟨w.heap.size, 2, none⟩ = some (.string o.e) := blk_cell hO1 2
                have y3 : W1.cell? ⟨w.heap.size, 3, none⟩ = some (.string o.u) := blk_cell hO1 3
                have y4 : W1.cell? ⟨w.heap.size, 4, none⟩ = some (.int .i64 o.n) := blk_cell hO1 4
                have HO1 := Aside0.mk hO1
                have HD := Lib.hid (drop_byte P pos hp)
                have hcc := Lib.hid (hby.out pos hp)
                have hil := Lib.hid (blk_lt hk1)
                have hol := Lib.hid (blk_lt hO1)
                clear hk HO HB hO1 h128
                generalize hc : (P[pos]'hp).toNat = c at *
                have hstep : Hid (mayL o (P.data.toList.drop pos) = (((c : Int) == 110 || nameR (textO o c)) && mayL o (P.data.toList.drop (pos + 1)))) := by
                  show _ = _
                  rw [HD.out, mayL, hc]
                by_cases h110 : (c : Int) = 110
                · have hb : ((c : Int) == 110) = true := by simp [h110]
                  go_wp2
                  refine ⟨⟨pos + 1, hp, ⟨?_⟩, hk1, HO1, HB1⟩, ?_⟩
                  · rw [← HK.out, hstep.out, hb]; rfl
                  · rw [hmu, World.iterPos, hk1]; simp; omega
                · have hc3 : c = 99 ∨ c = 101 ∨ c = 117 := by have h := hcc.out; omega
                  have htx := Lib.hid (fun W' => text_three o c hc3 W')
                  have hts := textO_size o c hc3 hcs hes huss
                  have hb : ((c : Int) == 110) = false := by simp [h110]
                  cases hN : nameR (textO o c)
                  · have hnm : Hid (∀ W', Calls Tryd.prog 26 #[.string (textO o c)] W' fun e w' => e = .returned (.bool false) ∧ Below W'.heap.size W' w') := fun W' => by have h := Name_any (textO o c) hts W'; rw [hN] at h; exact h.mono (fun e w' h => ⟨h.1, h.2 ▸ Below.refl _ _⟩)
                    have hfin : Hid (mayO o = false) := by
                      show _ = _
                      rw [hmay.out, ← HK.out, hstep.out, hb, hN]; rfl
                    generalize textO o c = tx at *
                    go_wp2_with (first
                      | (go_at_call 15; refine (htx.out _).mono ?_; rintro e w3 ⟨rfl, hb3⟩; have HB3 := Lib.hid hb3; clear hb3)
                      | (go_at_call 26; refine (hnm.out _).mono ?_; rintro e w4 ⟨rfl, hb4⟩; have HB4 := Lib.hid hb4; clear hb4))
                    rw [hfin.out]
                    go_ret
                    exact ⟨rfl, (HB1.out.trans (HB3.out.mono HB1.out.size)).trans (HB4.out.mono (HB1.out.trans (HB3.out.mono HB1.out.size)).size)⟩
                  · have hnm : Hid (∀ W', Calls Tryd.prog 26 #[.string (textO o c)] W' fun e w' => e = .returned (.bool true) ∧ Below W'.heap.size W' w') := fun W' => by have h := Name_any (textO o c) hts W'; rw [hN] at h; exact h.mono (fun e w' h => ⟨h.1, h.2 ▸ Below.refl _ _⟩)
                    have hkeep : Hid (mayL o (P.data.toList.drop (pos + 1)) = mayL o P.data.toList) := by
                      show _ = _
                      rw [← HK.out, hstep.out, hb, hN]; rfl
                    generalize textO o c = tx at *
                    go_wp2_with (first
                      | (go_at_call 15; refine (htx.out _).mono ?_; rintro e w3 ⟨rfl, hb3⟩; have HB3 := Lib.hid hb3; clear hb3)
                      | (go_at_call 26; refine (hnm.out _).mono ?_; rintro e w4 ⟨rfl, hb4⟩; have HB4 := Lib.hid hb4; clear hb4))
                    have hkk := (HB4.out.block wc.heap.size (Nat.lt_of_lt_of_le hil.out HB3.out.size)).trans ((HB3.out.block wc.heap.size hil.out).trans hk1)
                    refine ⟨⟨pos + 1, hp, ⟨hkeep.out⟩, hkk, ⟨(HB4.out.block w.heap.size (Nat.lt_of_lt_of_le hol.out HB3.out.size)).trans ((HB3.out.block w.heap.size hol.out).trans HO1.out)⟩, ⟨(HB1.out.trans (HB3.out.mono HB1.out.size)).trans (HB4.out.mono (HB1.out.trans (HB3.out.mono HB1.out.size)).size)⟩⟩, ?_⟩
                    rw [hmu, World.iterPos, hkk]; simp; omega
              · have hnext : ∀ ty, (Instr.next (.pointer (some ⟨wc.heap.size, 0, none⟩)) true ty).run Tryd.prog wr = _ := fun ty => Lib.run_next_end_at wr wc.heap.size P pos ty hk hp
                have hall : P.data.toList.drop pos = [] := List.drop_eq_nil_of_le (by rw [Array.length_toList]; show P.size ≤ pos; omega)
                have hfin : Hid (mayO o = true) := by
                  show _ = _
                  rw [hmay.out, ← HK.out, hall]; rfl
                clear hall
                go_wp2
                rw [hfin.out]
                go_ret
                exact ⟨rfl, HB.out⟩
          · go_wp2
            go_ret
            exact ⟨by rw [hmay.out, hB]; rfl, hB3.out⟩
    · have hmay : mayO o = false := by unfold mayO; rw [decide_eq_false h9]; simp
      rw [hmay]
      go_enter Tryd.func11, Tryd.ntmps11
      go_wp2
      go_ret
      exact ⟨rfl, below_alloc (Below.refl _ _) _⟩
  · have hmay : mayO o = false := by unfold mayO; rw [decide_eq_false h1]; simp
    rw [hmay]
    go_enter Tryd.func11, Tryd.ntmps11
    go_wp2
    go_ret
    exact ⟨rfl, below_alloc (Below.refl _ _) _⟩
end Go.Proofs.YtdphomiljkclbaaDoor
