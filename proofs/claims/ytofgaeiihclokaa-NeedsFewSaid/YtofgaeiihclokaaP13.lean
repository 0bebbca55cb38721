/- Functions of the program and of the law as Lean functions, with the proof that the calls answer so; written by a program. No conditions beyond those typed. -/
import Derived.Test.YtofgaeiihclokaaP0
import Derived.Test.YtofgaeiihclokaaP9
import Derived.Test.YtofgaeiihclokaaP10
import Derived.Test.YtofgaeiihclokaaP11
import Derived.Test.YtofgaeiihclokaaP12
namespace Go.Proofs.Ytofgaeiihclokaa.P
open Go.RowKit Go.Proofs.YtofgaeiihclokaaW.PrintWords Go.Proofs.YtofgaeiihclokaaW.PrintLast Go.Proofs.YtofgaeiihclokaaW.PrintMore
attribute [local go_sem] max2_int min2_int max_two min_two max_three min_three max_four min_four   -- for this text's walks alone
set_option linter.unusedVariables false
set_option linter.unusedSimpArgs false

/-! ### replevinref07_Matters: function 25 -/
mutual
def replevinref07_Matters.l0 : Nat → List (List Bool) → List Int → List Int → Int → List (S68) → List (S69) → Option (List Int)
  | 0, _, _, _, _, _, _ => none
  | k + 1, x3, x4, x5, x6, x377000, x377001 => if x6 < (x377000.length : Int) then (replevinref07_Matters.l1 k x3 x4 x5 x6 false 0 x377000 x377001) else (some x5)
def replevinref07_Matters.l1 : Nat → List (List Bool) → List Int → List Int → Int → Bool → Int → List (S68) → List (S69) → Option (List Int)
  | 0, _, _, _, _, _, _, _, _ => none
  | k + 1, x3, x4, x5, x6, x7, x8, x377000, x377001 => if x8 < (x4.length : Int) then (if x7 = true then (replevinref07_Matters.l1 k x3 x4 x5 x6 true (wrap64 (x8 + 1)) x377000 x377001) else (if 0 ≤ x8 then (if (rd x4 x8) = x6 then (replevinref07_Matters.l1 k x3 x4 x5 x6 true (wrap64 (x8 + 1)) x377000 x377001) else (if 0 ≤ (rd x4 x8) then (if (rd x4 x8) < (x3.length : Int) then (if 0 ≤ x6 then (if x6 < ((rd_L10 x3 (rd x4 x8)).length : Int) then (replevinref07_Matters.l1 k x3 x4 x5 x6 (rdOf false (rd_L10 x3 (rd x4 x8)) x6) (wrap64 (x8 + 1)) x377000 x377001) else (none)) else (none)) else (none)) else (none))) else (none))) else (if x7 = true then (if x5.length < 17592186044416 then (replevinref07_Matters.l0 k x3 x4 (x5 ++ [x6]) (wrap64 (x6 + 1)) x377000 x377001) else (none)) else (replevinref07_Matters.l0 k x3 x4 x5 (wrap64 (x6 + 1)) x377000 x377001))
end
def replevinref07_Matters.f (k : Nat) (l0_0 : List (S68)) (l0_1 : List (S69)) : Option (List Int) := (replevinref07_Net.f k l0_0 l0_1).bind fun t377 => ((replevinref06_Table.f k t377).bind fun t380 => ((replevinref07_Called.f k l0_0 l0_1).bind fun t383 => (replevinref07_Matters.l0 k t380 t383 (([] : List Int)) 0 l0_0 l0_1)))
theorem replevinref07_Matters.mono_l : ∀ k, (∀ y0 y1 y2 y3 y4 y5, LeO (replevinref07_Matters.l0 k y0 y1 y2 y3 y4 y5) (replevinref07_Matters.l0 (k + 1) y0 y1 y2 y3 y4 y5)) ∧ (∀ y0 y1 y2 y3 y4 y5 y6 y7, LeO (replevinref07_Matters.l1 k y0 y1 y2 y3 y4 y5 y6 y7) (replevinref07_Matters.l1 (k + 1) y0 y1 y2 y3 y4 y5 y6 y7))
  | 0 => ⟨fun _ _ _ _ _ _ r h => by simp [replevinref07_Matters.l0] at h, fun _ _ _ _ _ _ _ _ r h => by simp [replevinref07_Matters.l1] at h⟩
  | k + 1 => by
    obtain ⟨ih0, ih1⟩ := replevinref07_Matters.mono_l k
    refine ⟨?_, ?_⟩
    · intro y0 y1 y2 y3 y4 y5
      unfold replevinref07_Matters.l0
      repeat' first
      | (with_reducible exact ih0 _ _ _ _ _ _)
      | (with_reducible exact ih1 _ _ _ _ _ _ _ _)
      | (with_reducible exact replevinref06_Table.mono _ _)
      | (with_reducible exact replevinref07_Called.mono _ _ _)
      | (with_reducible exact replevinref07_Net.mono _ _ _)
      | (with_reducible exact LeO.refl _)
      | (with_reducible exact LeO.none _)
      | (with_reducible refine LeO.ite ?_ ?_)
      | (with_reducible refine LeO.bind ?_ (fun _ => ?_))
      | exact ih0 _ _ _ _ _ _
      | exact ih1 _ _ _ _ _ _ _ _
      | exact replevinref06_Table.mono _ _
      | exact replevinref07_Called.mono _ _ _
      | exact replevinref07_Net.mono _ _ _
      | exact LeO.none _
      | refine LeO.ite ?_ ?_
      | refine LeO.bind ?_ (fun _ => ?_)
    · intro y0 y1 y2 y3 y4 y5 y6 y7
      unfold replevinref07_Matters.l1
      repeat' first
      | (with_reducible exact ih0 _ _ _ _ _ _)
      | (with_reducible exact ih1 _ _ _ _ _ _ _ _)
      | (with_reducible exact replevinref06_Table.mono _ _)
      | (with_reducible exact replevinref07_Called.mono _ _ _)
      | (with_reducible exact replevinref07_Net.mono _ _ _)
      | (with_reducible exact LeO.refl _)
      | (with_reducible exact LeO.none _)
      | (with_reducible refine LeO.ite ?_ ?_)
      | (with_reducible refine LeO.bind ?_ (fun _ => ?_))
      | exact ih0 _ _ _ _ _ _
      | exact ih1 _ _ _ _ _ _ _ _
      | exact replevinref06_Table.mono _ _
      | exact replevinref07_Called.mono _ _ _
      | exact replevinref07_Net.mono _ _ _
      | exact LeO.none _
      | refine LeO.ite ?_ ?_
      | refine LeO.bind ?_ (fun _ => ?_)
theorem replevinref07_Matters.mono : ∀ a0 a1 k, LeO (replevinref07_Matters.f k a0 a1) (replevinref07_Matters.f (k + 1) a0 a1) := by
  intro a0 a1 k
  obtain ⟨ih0, ih1⟩ := replevinref07_Matters.mono_l k
  unfold replevinref07_Matters.f
  repeat' first
      | (with_reducible exact ih0 _ _ _ _ _ _)
      | (with_reducible exact ih1 _ _ _ _ _ _ _ _)
      | (with_reducible exact replevinref06_Table.mono _ _)
      | (with_reducible exact replevinref07_Called.mono _ _ _)
      | (with_reducible exact replevinref07_Net.mono _ _ _)
      | (with_reducible exact LeO.refl _)
      | (with_reducible exact LeO.none _)
      | (with_reducible refine LeO.ite ?_ ?_)
      | (with_reducible refine LeO.bind ?_ (fun _ => ?_))
      | exact ih0 _ _ _ _ _ _
      | exact ih1 _ _ _ _ _ _ _ _
      | exact replevinref06_Table.mono _ _
      | exact replevinref07_Called.mono _ _ _
      | exact replevinref07_Net.mono _ _ _
      | exact LeO.none _
      | refine LeO.ite ?_ ?_
      | refine LeO.bind ?_ (fun _ => ?_)
set_option maxHeartbeats 8000000 in
set_option maxRecDepth 100000 in
theorem replevinref07_Matters.calls (k : Nat) (A0_0 : Option Addr) (c0_0 : Nat) (l0_0 : List (S68)) (A0_1 : Option Addr) (c0_1 : Nat) (l0_1 : List (S69)) (r : List Int) (w : World) (hr0_0 : Kd.C k68 w A0_0 l0_0.length l0_0) (hc0_0 : l0_0.length ≤ c0_0) (hr0_1 : Kd.C k69 w A0_1 l0_1.length l0_1) (hc0_1 : l0_1.length ≤ c0_1) (h : replevinref07_Matters.f k l0_0 l0_1 = some r) :
    Calls Try.prog 25 #[.agg #[.slice A0_0 l0_0.length c0_0, .slice A0_1 l0_1.length c0_1]] w fun e w' => ∃ v0_ : Value, e = .returned (v0_) ∧ Kd.R (Kd.int .i64) 3 w' w.heap.size (fun _ => True) v0_ r ∧ Below w.heap.size w w' := by
  have hu30 := Try.underlying30
  have HR0_0 := Aside0.mk hr0_0
  have HC0_0 := Aside0.mk hc0_0
  clear hr0_0 hc0_0
  have HR0_1 := Aside0.mk hr0_1
  have HC0_1 := Aside0.mk hc0_1
  clear hr0_1 hc0_1
  have HB := Aside0.mk (Below.refl w.heap.size w)
  have H : ((replevinref07_Net.f k l0_0 l0_1).bind fun t377 => ((replevinref06_Table.f k t377).bind fun t380 => ((replevinref07_Called.f k l0_0 l0_1).bind fun t383 => (replevinref07_Matters.l0 k t380 t383 (([] : List Int)) 0 l0_0 l0_1)))) = some r := h
  clear h
  replace H := Option.bind_eq_some_iff.mp H
  obtain ⟨t377, A20, H⟩ := H
  replace H : ((replevinref06_Table.f k t377).bind fun t380 => ((replevinref07_Called.f k l0_0 l0_1).bind fun t383 => (replevinref07_Matters.l0 k t380 t383 (([] : List Int)) 0 l0_0 l0_1))) = some r := H
  have A2 := Aside0.mk A20
  clear A20
  replace H := Option.bind_eq_some_iff.mp H
  obtain ⟨t380, A30, H⟩ := H
  replace H : ((replevinref07_Called.f k l0_0 l0_1).bind fun t383 => (replevinref07_Matters.l0 k t380 t383 (([] : List Int)) 0 l0_0 l0_1)) = some r := H
  have A3 := Aside0.mk A30
  clear A30
  replace H := Option.bind_eq_some_iff.mp H
  obtain ⟨t383, A40, H⟩ := H
  replace H : (replevinref07_Matters.l0 k t380 t383 (([] : List Int)) 0 l0_0 l0_1) = some r := H
  have A4 := Aside0.mk A40
  clear A40
  obtain ⟨y386, hy386⟩ : ∃ y_ : List Int, y_ = (([] : List Int)) := ⟨_, rfl⟩
  replace H : (replevinref07_Matters.l0 k t380 t383 y386 0 l0_0 l0_1) = some r := by first | (rw [hy386]; with_reducible exact H) | (have H2_ := (Option.bind_some _ _).symm.trans H; rw [hy386]; with_reducible exact H2_) | (have H2_ := (Option.bind_some _ _).symm.trans H; with_reducible exact H2_) | with_reducible exact H | (rw [hy386]; exact H) | exact H
  have Ny386 := Aside0.mk hy386
  clear hy386
  have H' := Aside0.mk H
  clear H
  go_enter Try.func25, Try.ntmps25
  go_wp2_with (first | ((with_reducible refine gate_dst (N := 1) rfl ?_); refine box_event ?hg (N := 1) ?hd (cs := #[.slice A0_0 l0_0.length c0_0, .slice A0_1 l0_1.length c0_1]) (t := 30) ?hr ?_; (case hd => rfl); (case hg => rfl); (case hr => first | (go_simp; done) | (go_simp; rfl)); intro gb376 hg w5 hbox hb; have n0_ := Aside0.mk (below_step (by repeat (first | (with_reducible first | exact HB.out | apply below_alloc | apply pw_below_drewN | apply below_drew1) | exact HB.out)) hb); have n1_ := Aside0.mk (hbox); have n2_ := Aside0.mk ((by rw [hg]; exact (below_size (by repeat (first | (with_reducible first | exact HB.out | apply below_alloc | apply pw_below_drewN | apply below_drew1) | exact HB.out))) : w.heap.size ≤ gb376)); have n3_ := Aside0.mk ((by rw [hg]; exact (below_size (by repeat (first | (with_reducible first | exact HB.out | apply below_alloc | apply pw_below_drewN | apply below_drew1) | exact HB.out))) : w.heap.size ≤ gb376)); clear HB; have HB := n0_; have BK376 := n1_; have GW376 := n2_; have GE376 := n3_; clear n0_ n1_ n2_ n3_; clear hb hbox hg; have hcz6_0 : w5.cell? ⟨gb376, 0, none⟩ = some (.slice A0_0 l0_0.length c0_0) := (blk_cell BK376.out 0).trans rfl; have hcz6_1 : w5.cell? ⟨gb376, 1, none⟩ = some (.slice A0_1 l0_1.length c0_1) := (blk_cell BK376.out 1).trans rfl; have hfz6_0 := blk_frozen BK376.out 0; have hfz6_1 := blk_frozen BK376.out 1) | ((with_reducible refine gate_callee (f := 21) rfl ?_); refine goesL_ (some 10) rfl rfl Try.func21 (by kernel_rfl) rfl #[.agg #[.slice A0_0 l0_0.length c0_0, .slice A0_1 l0_1.length c0_1]] rfl (by (try simp only [List.map_toArray, List.map_cons, List.map_nil]); first | done | rfl | (simp only [List.length_drop, List.length_take]; rfl)) ?_; (with_reducible refine (replevinref07_Net.calls k _ _ l0_0 _ _ l0_1 t377 _ ?side1 ?side2 ?side3 ?side4 A2.out).mono ?_); (case side1 => repeat (first | exact (Kd.C_below HR0_0.out HB.out) | (with_reducible refine Kd.C_alloc ?_ _) | (with_reducible refine Kd.C_drewN ?_ _) | (with_reducible refine Kd.C_drew ?_))); (case side2 => exact HC0_0.out); (case side3 => repeat (first | exact (Kd.C_below HR0_1.out HB.out) | (with_reducible refine Kd.C_alloc ?_ _) | (with_reducible refine Kd.C_drewN ?_ _) | (with_reducible refine Kd.C_drew ?_))); (case side4 => exact HC0_1.out); rintro e w7 ⟨v378, rfl, ho0, hb⟩; refine ⟨_, rfl, ?_⟩; have n0_ := Aside0.mk (Kd.S_lower ho0 (below_size (by repeat (first | (with_reducible first | exact HB.out | apply below_alloc | apply pw_below_drewN | apply below_drew1 | refine below_set ?_ GE376.out) | exact HB.out)))); have n1_ := Aside0.mk (blk_below (g := gb376) (o := .cells #[.slice A0_0 l0_0.length c0_0, .slice A0_1 l0_1.length c0_1] 30 (0, 0)) (by (with_reducible repeat (first | refine blk_drewN ?_ _ | refine blk_drew ?_ | refine blk_alloc ?_ _)); exact BK376.out) hb); have n2_ := Aside0.mk (below_step (by repeat (first | (with_reducible first | exact HB.out | apply below_alloc | apply pw_below_drewN | apply below_drew1 | refine below_set ?_ GE376.out) | exact HB.out)) hb); clear BK376; clear HB; have HO379 := n0_; have BK376 := n1_; have HB := n2_; clear n0_ n1_ n2_; (try clear hb); (try clear hb2); (try clear hk); (try clear hi); (try clear ho0); obtain ⟨Ao8, co8, eo8⟩ := Kd.S_slice HO379.out; subst eo8) | ((with_reducible refine gate_callee (f := 52) rfl ?_); refine goesL_ (some 11) rfl rfl Try.func52 (by kernel_rfl) rfl #[.slice Ao8 t377.length co8] rfl (by (try simp only [List.map_toArray, List.map_cons, List.map_nil]); first | done | rfl | (simp only [List.length_drop, List.length_take]; rfl)) ?_; (with_reducible refine (replevinref06_Table.calls k _ _ t377 t380 _ ?side1 ?side2 A3.out).mono ?_); (case side1 => repeat (first | exact (Kd.S_reads' HO379.out).2.2 | (with_reducible refine Kd.C_alloc ?_ _) | (with_reducible refine Kd.C_drewN ?_ _) | (with_reducible refine Kd.C_drew ?_))); (case side2 => exact (Kd.S_reads' HO379.out).2.1); rintro e w9 ⟨v381, rfl, ho0, hb⟩; refine ⟨_, rfl, ?_⟩; have n0_ := Aside0.mk (Kd.S_below (by (with_reducible repeat (first | apply Kd.S_alloc | apply Kd.S_drewN | apply Kd.S_drew)); exact HO379.out) hb); have n1_ := Aside0.mk (Kd.S_lower ho0 (below_size (by repeat (first | (with_reducible first | exact HB.out | apply below_alloc | apply pw_below_drewN | apply below_drew1 | refine below_set ?_ GE376.out) | exact HB.out)))); have n2_ := Aside0.mk (blk_below (g := gb376) (o := .cells #[.slice A0_0 l0_0.length c0_0, .slice A0_1 l0_1.length c0_1] 30 (0, 0)) (by (with_reducible repeat (first | refine blk_drewN ?_ _ | refine blk_drew ?_ | refine blk_alloc ?_ _)); exact BK376.out) hb); have n3_ := Aside0.mk (below_step (by repeat (first | (with_reducible first | exact HB.out | apply below_alloc | apply pw_below_drewN | apply below_drew1 | refine below_set ?_ GE376.out) | exact HB.out)) hb); clear HO379; clear BK376; clear HB; have HO379 := n0_; have HO382 := n1_; have BK376 := n2_; have HB := n3_; clear n0_ n1_ n2_ n3_; (try clear hb); (try clear hb2); (try clear hk); (try clear hi); (try clear ho0); have hcz10_0 : w9.cell? ⟨gb376, 0, none⟩ = some (.slice A0_0 l0_0.length c0_0) := (blk_cell BK376.out 0).trans rfl; have hcz10_1 : w9.cell? ⟨gb376, 1, none⟩ = some (.slice A0_1 l0_1.length c0_1) := (blk_cell BK376.out 1).trans rfl; have hfz10_0 := blk_frozen BK376.out 0; have hfz10_1 := blk_frozen BK376.out 1) | ((with_reducible refine gate_callee (f := 23) rfl ?_); refine goesL_ (some 13) rfl rfl Try.func23 (by kernel_rfl) rfl #[.agg #[.slice A0_0 l0_0.length c0_0, .slice A0_1 l0_1.length c0_1]] rfl (by (try simp only [List.map_toArray, List.map_cons, List.map_nil]); first | done | rfl | (simp only [List.length_drop, List.length_take]; rfl)) ?_; (with_reducible refine (replevinref07_Called.calls k _ _ l0_0 _ _ l0_1 t383 _ ?side1 ?side2 ?side3 ?side4 A4.out).mono ?_); (case side1 => repeat (first | exact (Kd.C_below HR0_0.out HB.out) | (with_reducible refine Kd.C_alloc ?_ _) | (with_reducible refine Kd.C_drewN ?_ _) | (with_reducible refine Kd.C_drew ?_))); (case side2 => exact HC0_0.out); (case side3 => repeat (first | exact (Kd.C_below HR0_1.out HB.out) | (with_reducible refine Kd.C_alloc ?_ _) | (with_reducible refine Kd.C_drewN ?_ _) | (with_reducible refine Kd.C_drew ?_))); (case side4 => exact HC0_1.out); rintro e w11 ⟨v384, rfl, ho0, hb⟩; refine ⟨_, rfl, ?_⟩; have n0_ := Aside0.mk (Kd.S_elder' (by (with_reducible repeat (first | apply Kd.S_alloc | apply Kd.S_drewN | apply Kd.S_drew)); exact HO379.out) (Kd.R_base ho0) hb); have n1_ := Aside0.mk (Kd.S_below (by (with_reducible repeat (first | apply Kd.S_alloc | apply Kd.S_drewN | apply Kd.S_drew)); exact HO382.out) hb); have n2_ := Aside0.mk (Kd.R_lower ho0 (below_size (by repeat (first | (with_reducible first | exact HB.out | apply below_alloc | apply pw_below_drewN | apply below_drew1 | refine below_set ?_ GE376.out) | exact HB.out)))); have n3_ := Aside0.mk (blk_below (g := gb376) (o := .cells #[.slice A0_0 l0_0.length c0_0, .slice A0_1 l0_1.length c0_1] 30 (0, 0)) (by (with_reducible repeat (first | refine blk_drewN ?_ _ | refine blk_drew ?_ | refine blk_alloc ?_ _)); exact BK376.out) hb); have n4_ := Aside0.mk (below_step (by repeat (first | (with_reducible first | exact HB.out | apply below_alloc | apply pw_below_drewN | apply below_drew1 | refine below_set ?_ GE376.out) | exact HB.out)) hb); clear HO379; clear HO382; clear BK376; clear HB; have HO379 := n0_; have HO382 := n1_; have HO385 := n2_; have BK376 := n3_; have HB := n4_; clear n0_ n1_ n2_ n3_ n4_; (try clear hb); (try clear hb2); (try clear hk); (try clear hi); (try clear ho0)) | ((with_reducible refine gate_dst (N := 14) rfl ?_); refine Kd.R_lit (Kd.int .i64) _ 3 ?hg (N := 14) ?hd (xs := ([] : List Int)) (inner := []) (ok := fun _ => True) (okp := fun _ => True) ?hr ?hp (fun _ hk => hk) trivial (Below.refl _ _) (Nat.le_refl _) (by simp) ?_; (case hd => rfl); (case hg => rfl); (case hr => first | (go_simp; done) | (go_simp; rfl)); (case hp => exact (Reps.none _ _)); intro v387 w12 ho13 hb hg_ hnew_; clear hg_ hnew_; (first | rw [← Ny386.out] at ho13 | (simp only [Int.reduceToNat] at ho13; rw [← Ny386.out] at ho13)); have n0_ := Aside0.mk (Kd.S_elder' (by (with_reducible repeat (first | apply Kd.S_alloc | apply Kd.S_drewN | apply Kd.S_drew)); exact HO379.out) (Kd.R_base ho13) hb); have n1_ := Aside0.mk (Kd.S_below (by (with_reducible repeat (first | apply Kd.S_alloc | apply Kd.S_drewN | apply Kd.S_drew)); exact HO382.out) hb); have n2_ := Aside0.mk (Kd.R_elder' (by (with_reducible repeat (first | apply Kd.R_alloc | apply Kd.R_drewN | apply Kd.R_drew)); exact HO385.out) (Kd.R_base ho13) hb); have n3_ := Aside0.mk (Kd.R_lower (Kd.R_new' ho13 (Kd.R_lt (by (with_reducible repeat (first | apply Kd.R_alloc | apply Kd.R_drewN | apply Kd.R_drew)); exact HO385.out))) (below_size (by repeat (first | (with_reducible first | exact HB.out | apply below_alloc | apply pw_below_drewN | apply below_drew1 | refine below_set ?_ GE376.out) | exact HB.out)))); have n4_ := Aside0.mk (blk_below (g := gb376) (o := .cells #[.slice A0_0 l0_0.length c0_0, .slice A0_1 l0_1.length c0_1] 30 (0, 0)) (by (with_reducible repeat (first | refine blk_drewN ?_ _ | refine blk_drew ?_ | refine blk_alloc ?_ _)); exact BK376.out) hb); have n5_ := Aside0.mk (below_step (by repeat (first | (with_reducible first | exact HB.out | apply below_alloc | apply pw_below_drewN | apply below_drew1 | refine below_set ?_ GE376.out) | exact HB.out)) hb); clear HO379; clear HO382; clear HO385; clear BK376; clear HB; have HO379 := n0_; have HO382 := n1_; have HO385 := n2_; have HO388 := n3_; have BK376 := n4_; have HB := n5_; clear n0_ n1_ n2_ n3_ n4_ n5_; clear hb ho13))
  go_loopg [5, 6] k (fun kq v5 v6 w' => ∃ (x5_1 : List Int) (x6_1 : Int), v6 = .int .i64 x6_1 ∧ Aside0 (replevinref07_Matters.l0 kq t380 t383 x5_1 x6_1 l0_0 l0_1 = some r) ∧ Aside0 (kq ≤ k) ∧ Aside0 (Kd.S (Kd.slice 4 Kd.bool) 78 w' w.heap.size (fun _ => True) v381 t380) ∧ Aside0 (Kd.R (Kd.int .i64) 3 w' w.heap.size (fun k_ => some k_ ≠ (v5 : Value).ownBlock) v384 t383) ∧ Aside0 (Kd.R (Kd.int .i64) 3 w' w.heap.size (fun k_ => some k_ ≠ (v384 : Value).ownBlock) v5 x5_1) ∧ Aside0 (w'.heap[gb376]? = some (.cells #[(.slice A0_0 l0_0.length c0_0), (.slice A0_1 l0_1.length c0_1)] 30 (0, 0))) ∧ Aside0 (Below w.heap.size w w'))
  case atStart => exact ⟨(y386), (0), (by first | rfl | (simp; done) | (simp [*]; done)), H', ⟨Nat.le_refl _⟩, ⟨by (with_reducible repeat (first | apply Kd.S_alloc | apply Kd.S_drewN | apply Kd.S_drew)); exact HO382.out⟩, ⟨by (with_reducible repeat (first | apply Kd.R_alloc | apply Kd.R_drewN | apply Kd.R_drew)); exact Kd.R_mono HO385.out (fun _ hk => hk.2)⟩, ⟨by (with_reducible repeat (first | apply Kd.R_alloc | apply Kd.R_drewN | apply Kd.R_drew)); exact Kd.R_mono HO388.out (fun _ hk => hk.2)⟩, ⟨by (with_reducible repeat (first | refine blk_drewN ?_ _ | refine blk_drew ?_ | refine blk_alloc ?_ _)); exact BK376.out⟩, ⟨by repeat (first | (with_reducible first | exact HB.out | apply below_alloc | apply pw_below_drewN | apply below_drew1 | refine below_set ?_ GE376.out) | exact HB.out)⟩⟩
  case round =>
    clear H'
    try clear c2
    try clear p2
    try clear c5
    try clear hcz10_0
    try clear hcz10_1
    try clear hcz6_0
    try clear hcz6_1
    try clear hfz10_0
    try clear hfz10_1
    try clear hfz6_0
    try clear hfz6_1
    obtain ⟨x5_1, x6_1, rfl, HA, HK1, HO_3, HO_4, HO_5, BK376, HB⟩ := hrel
    cases gk with
    | zero => exact absurd HA.out (by simp [replevinref07_Matters.l0])
    | succ k1 =>
      have H := HA.out
      clear HA
      simp only [replevinref07_Matters.l0] at H
      by_cases c14 : x6_1 < (l0_0.length : Int)
      · rw [if_pos c14] at H
        have c14b0 : decide (x6_1 < (l0_0.length : Int)) = true := decide_eq_true c14
        clear c14
        have H' := Aside0.mk H
        clear H
        have hcz15_0 : wr.cell? ⟨gb376, 0, none⟩ = some (.slice A0_0 l0_0.length c0_0) := (blk_cell BK376.out 0).trans rfl
        have hcz15_1 : wr.cell? ⟨gb376, 1, none⟩ = some (.slice A0_1 l0_1.length c0_1) := (blk_cell BK376.out 1).trans rfl
        have hfz15_0 := blk_frozen BK376.out 0
        have hfz15_1 := blk_frozen BK376.out 1
        go_wp2
        go_loopg [7, 8] k1 (fun kq v7 v8 w' => ∃ (x7_2 : Bool) (x8_2 : Int), v7 = .bool x7_2 ∧ v8 = .int .i64 x8_2 ∧ Aside0 (replevinref07_Matters.l1 kq t380 t383 x5_1 x6_1 x7_2 x8_2 l0_0 l0_1 = some r) ∧ Aside0 (kq ≤ k1) ∧ Aside0 (Kd.S (Kd.slice 4 Kd.bool) 78 w' w.heap.size (fun _ => True) v381 t380) ∧ Aside0 (Kd.R (Kd.int .i64) 3 w' w.heap.size (fun k_ => some k_ ≠ (u5 : Value).ownBlock) v384 t383) ∧ Aside0 (Kd.R (Kd.int .i64) 3 w' w.heap.size (fun k_ => some k_ ≠ (v384 : Value).ownBlock) u5 x5_1) ∧ Aside0 (w'.heap[gb376]? = some (.cells #[(.slice A0_0 l0_0.length c0_0), (.slice A0_1 l0_1.length c0_1)] 30 (0, 0))) ∧ Aside0 (Below w.heap.size w w'))
        case atStart => exact ⟨(false), (0), (by first | rfl | (simp; done) | (simp [*]; done)), (by first | rfl | (simp; done) | (simp [*]; done)), H', ⟨Nat.le_refl _⟩, ⟨by (with_reducible repeat (first | apply Kd.S_alloc | apply Kd.S_drewN | apply Kd.S_drew)); exact HO_3.out⟩, ⟨by (with_reducible repeat (first | apply Kd.R_alloc | apply Kd.R_drewN | apply Kd.R_drew)); exact HO_4.out⟩, ⟨by (with_reducible repeat (first | apply Kd.R_alloc | apply Kd.R_drewN | apply Kd.R_drew)); exact HO_5.out⟩, ⟨by (with_reducible repeat (first | refine blk_drewN ?_ _ | refine blk_drew ?_ | refine blk_alloc ?_ _)); exact BK376.out⟩, ⟨by repeat (first | (with_reducible first | exact HB.out | apply below_alloc | apply pw_below_drewN | apply below_drew1 | refine below_set ?_ GE376.out) | exact HB.out)⟩⟩
        case round =>
          clear H'
          try clear c1
          try clear c2
          try clear p2
          try clear c5
          try clear c14
          try clear c14b0
          try clear hcz10_0
          try clear hcz10_1
          try clear hcz15_0
          try clear hcz15_1
          try clear hcz6_0
          try clear hcz6_1
          try clear hfz10_0
          try clear hfz10_1
          try clear hfz15_0
          try clear hfz15_1
          try clear hfz6_0
          try clear hfz6_1
          try clear p2
          obtain ⟨x7_2, x8_2, rfl, rfl, HA, HK2, HO_3, HO_4, HO_5, BK376, HB⟩ := hrel
          cases gk with
          | zero => exact absurd HA.out (by simp [replevinref07_Matters.l1])
          | succ k2 =>
            have H := HA.out
            clear HA
            simp only [replevinref07_Matters.l1] at H
            by_cases c16 : x8_2 < (t383.length : Int)
            · rw [if_pos c16] at H
              have c16b0 : decide (x8_2 < (t383.length : Int)) = true := decide_eq_true c16
              clear c16
              by_cases c17 : x7_2 = true
              · subst c17
                have H1 : (replevinref07_Matters.l1 k2 t380 t383 x5_1 x6_1 true (wrap64 (x8_2 + 1)) l0_0 l0_1) = some r := by rw [if_pos rfl] at H; exact H
                clear H
                have H := H1
                clear H1
                have H' := Aside0.mk H
                clear H
                obtain ⟨Ao18, co18, eo18⟩ := Kd.R_slice HO_4.out
                subst eo18
                go_wp2
                go_roundg k2
                case measure => have := HK1.out; have := HK2.out; omega
                case rel => exact ⟨(true), (wrap64 (x8_2 + 1)), (by first | rfl | (simp; done) | (simp [*]; done)), (by first | rfl | (simp; done) | (simp [*]; done)), H', ⟨by have := HK1.out; have := HK2.out; omega⟩, ⟨by (with_reducible repeat (first | apply Kd.S_alloc | apply Kd.S_drewN | apply Kd.S_drew)); exact HO_3.out⟩, ⟨by (with_reducible repeat (first | apply Kd.R_alloc | apply Kd.R_drewN | apply Kd.R_drew)); exact HO_4.out⟩, ⟨by (with_reducible repeat (first | apply Kd.R_alloc | apply Kd.R_drewN | apply Kd.R_drew)); exact HO_5.out⟩, ⟨by (with_reducible repeat (first | refine blk_drewN ?_ _ | refine blk_drew ?_ | refine blk_alloc ?_ _)); exact BK376.out⟩, ⟨by repeat (first | (with_reducible first | exact HB.out | apply below_alloc | apply pw_below_drewN | apply below_drew1 | refine below_set ?_ GE376.out) | exact HB.out)⟩⟩
              · replace c17 := Bool.eq_false_iff.mpr c17
                subst c17
                have H1 : (if 0 ≤ x8_2 then (if (rd t383 x8_2) = x6_1 then (replevinref07_Matters.l1 k2 t380 t383 x5_1 x6_1 true (wrap64 (x8_2 + 1)) l0_0 l0_1) else (if 0 ≤ (rd t383 x8_2) then (if (rd t383 x8_2) < (t380.length : Int) then (if 0 ≤ x6_1 then (if x6_1 < ((rd_L10 t380 (rd t383 x8_2)).length : Int) then (replevinref07_Matters.l1 k2 t380 t383 x5_1 x6_1 (rdOf false (rd_L10 t380 (rd t383 x8_2)) x6_1) (wrap64 (x8_2 + 1)) l0_0 l0_1) else (none)) else (none)) else (none)) else (none))) else (none)) = some r := by rw [if_neg (show ¬ (false = true) by decide)] at H; exact H
                clear H
                have H := H1
                clear H1
                by_cases c19 : 0 ≤ x8_2
                · rw [if_pos c19] at H
                  have c19b0 : decide (0 ≤ x8_2) = true := decide_eq_true c19
                  clear c19
                  by_cases c20 : (rd t383 x8_2) = x6_1
                  · rw [if_pos c20] at H
                    have c20b0 : ((rd t383 x8_2) == x6_1) = true := beq_iff_eq.mpr c20
                    have c20b1 : ((rd t383 x8_2) != x6_1) = false := bne_eq_false_iff_eq.mpr c20
                    clear c20
                    have H' := Aside0.mk H
                    clear H
                    obtain ⟨Ao21, co21, eo21⟩ := Kd.R_slice HO_4.out
                    subst eo21
                    have p389 : 0 ≤ (x8_2 : Int) := of_decide_eq_true (by first | (with_reducible assumption) | assumption)
                    have q389 : x8_2 < (t383.length : Int) := of_decide_eq_true (by first | (with_reducible assumption) | assumption)
                    obtain ⟨ad389, e389, hx389_0⟩ := Kd.at_int (Kd.R_reads' HO_4.out).2.2 x8_2 p389 q389
                    cases e389
                    replace p389 := eq_true p389
                    replace q389 := eq_true q389
                    go_wp2
                    go_roundg k2
                    case measure => have := HK1.out; have := HK2.out; omega
                    case rel => exact ⟨(true), (wrap64 (x8_2 + 1)), (by first | rfl | (simp; done) | (simp [*]; done)), (by first | rfl | (simp; done) | (simp [*]; done)), H', ⟨by have := HK1.out; have := HK2.out; omega⟩, ⟨by (with_reducible repeat (first | apply Kd.S_alloc | apply Kd.S_drewN | apply Kd.S_drew)); exact HO_3.out⟩, ⟨by (with_reducible repeat (first | apply Kd.R_alloc | apply Kd.R_drewN | apply Kd.R_drew)); exact HO_4.out⟩, ⟨by (with_reducible repeat (first | apply Kd.R_alloc | apply Kd.R_drewN | apply Kd.R_drew)); exact HO_5.out⟩, ⟨by (with_reducible repeat (first | refine blk_drewN ?_ _ | refine blk_drew ?_ | refine blk_alloc ?_ _)); exact BK376.out⟩, ⟨by repeat (first | (with_reducible first | exact HB.out | apply below_alloc | apply pw_below_drewN | apply below_drew1 | refine below_set ?_ GE376.out) | exact HB.out)⟩⟩
                  · rw [if_neg c20] at H
                    have c20b0 : ((rd t383 x8_2) == x6_1) = false := beq_eq_false_iff_ne.mpr c20
                    have c20b1 : ((rd t383 x8_2) != x6_1) = true := bne_iff_ne.mpr c20
                    by_cases c22 : 0 ≤ (rd t383 x8_2)
                    · rw [if_pos c22] at H
                      have c22b0 : decide (0 ≤ (rd t383 x8_2)) = true := decide_eq_true c22
                      clear c22
                      by_cases c23 : (rd t383 x8_2) < (t380.length : Int)
                      · rw [if_pos c23] at H
                        have c23b0 : decide ((rd t383 x8_2) < (t380.length : Int)) = true := decide_eq_true c23
                        clear c23
                        by_cases c24 : 0 ≤ x6_1
                        · rw [if_pos c24] at H
                          have c24b0 : decide (0 ≤ x6_1) = true := decide_eq_true c24
                          clear c24
                          by_cases c25 : x6_1 < ((rd_L10 t380 (rd t383 x8_2)).length : Int)
                          · rw [if_pos c25] at H
                            have c25b0 : decide (x6_1 < ((rd_L10 t380 (rd t383 x8_2)).length : Int)) = true := decide_eq_true c25
                            clear c25
                            have H' := Aside0.mk H
                            clear H
                            obtain ⟨Ao26, co26, eo26⟩ := Kd.R_slice HO_4.out
                            subst eo26
                            have p389 : 0 ≤ (x8_2 : Int) := of_decide_eq_true (by first | (with_reducible assumption) | assumption)
                            have q389 : x8_2 < (t383.length : Int) := of_decide_eq_true (by first | (with_reducible assumption) | assumption)
                            obtain ⟨ad389, e389, hx389_0⟩ := Kd.at_int (Kd.R_reads' HO_4.out).2.2 x8_2 p389 q389
                            cases e389
                            replace p389 := eq_true p389
                            replace q389 := eq_true q389
                            have p390 : 0 ≤ (x8_2 : Int) := of_decide_eq_true (by first | (with_reducible assumption) | assumption)
                            have q390 : x8_2 < (t383.length : Int) := of_decide_eq_true (by first | (with_reducible assumption) | assumption)
                            obtain ⟨ad390, e390, hx390_0⟩ := Kd.at_int (Kd.R_reads' HO_4.out).2.2 x8_2 p390 q390
                            obtain rfl : ad389 = ad390 := (by injection e390)
                            replace p390 := eq_true p390
                            replace q390 := eq_true q390
                            obtain ⟨Ao27, co27, eo27⟩ := Kd.S_slice HO_3.out
                            subst eo27
                            have p391 : 0 ≤ ((rd t383 x8_2) : Int) := of_decide_eq_true (by first | (with_reducible assumption) | assumption)
                            have q391 : (rd t383 x8_2) < (t380.length : Int) := of_decide_eq_true (by first | (with_reducible assumption) | assumption)
                            obtain ⟨ad391, A391_0, c391_0, e391, hx391_0, hl391_0, hi391_0⟩ := at_L10 (Kd.S_reads' HO_3.out).2.2 (rd t383 x8_2) p391 q391
                            cases e391
                            obtain ⟨ce391, hce391, hMe391, hcc391⟩ := Kd.S_get HO_3.out [] (rd t383 x8_2) p391 (by first | exact q391 | exact of_decide_eq_true (by first | (with_reducible assumption) | assumption) | (have e_ := (Kd.S_reads' HO_3.out).1; omega))
                            obtain ⟨ve391_0, rfl, ge391_0⟩ := hMe391
                            have hv391_0 := hcc391 0 _ rfl
                            rw [Nat.add_zero, show ((Kd.slice 4 Kd.bool)).sz = 1 from rfl, Nat.mul_one] at hv391_0
                            replace hv391_0 := Option.some.inj (hv391_0.symm.trans hx391_0)
                            rw [hv391_0] at ge391_0
                            have HL391_0 := Aside0.mk (show Kd.R Kd.bool 4 _ _ _ _ (rd_L10 t380 (rd t383 x8_2)) from ge391_0)
                            clear hv391_0 ge391_0
                            clear hcc391 hce391
                            have HR391_0 := Aside0.mk hi391_0
                            have HC391_0 := Aside0.mk hl391_0
                            clear hi391_0 hl391_0
                            replace p391 := eq_true p391
                            replace q391 := eq_true q391
                            have p392 : 0 ≤ (x6_1 : Int) := of_decide_eq_true (by first | (with_reducible assumption) | assumption)
                            have q392 : x6_1 < ((rd_L10 t380 (rd t383 x8_2)).length : Int) := of_decide_eq_true (by first | (with_reducible assumption) | assumption)
                            obtain ⟨ad392, e392, hx392_0⟩ := Kd.at_bool (by repeat (first | (with_reducible exact HR391_0.out) | (with_reducible refine Kd.C_alloc ?_ _) | (with_reducible refine Kd.C_drewN ?_ _) | (with_reducible refine Kd.C_drew ?_) | exact HR391_0.out)) x6_1 p392 q392
                            cases e392
                            replace p392 := eq_true p392
                            replace q392 := eq_true q392
                            go_wp2
                            go_roundg k2
                            case measure => have := HK1.out; have := HK2.out; omega
                            case rel => exact ⟨(rdOf false (rd_L10 t380 (rd t383 x8_2)) x6_1), (wrap64 (x8_2 + 1)), (by first | rfl | (simp; done) | (simp [*]; done)), (by first | rfl | (simp; done) | (simp [*]; done)), H', ⟨by have := HK1.out; have := HK2.out; omega⟩, ⟨by (with_reducible repeat (first | apply Kd.S_alloc | apply Kd.S_drewN | apply Kd.S_drew)); exact HO_3.out⟩, ⟨by (with_reducible repeat (first | apply Kd.R_alloc | apply Kd.R_drewN | apply Kd.R_drew)); exact HO_4.out⟩, ⟨by (with_reducible repeat (first | apply Kd.R_alloc | apply Kd.R_drewN | apply Kd.R_drew)); exact HO_5.out⟩, ⟨by (with_reducible repeat (first | refine blk_drewN ?_ _ | refine blk_drew ?_ | refine blk_alloc ?_ _)); exact BK376.out⟩, ⟨by repeat (first | (with_reducible first | exact HB.out | apply below_alloc | apply pw_below_drewN | apply below_drew1 | refine below_set ?_ GE376.out) | exact HB.out)⟩⟩
                          · rw [if_neg c25] at H
                            exact absurd H (by simp)
                        · rw [if_neg c24] at H
                          exact absurd H (by simp)
                      · rw [if_neg c23] at H
                        exact absurd H (by simp)
                    · rw [if_neg c22] at H
                      exact absurd H (by simp)
                · rw [if_neg c19] at H
                  exact absurd H (by simp)
            · rw [if_neg c16] at H
              have c16b0 : decide (x8_2 < (t383.length : Int)) = false := decide_eq_false c16
              clear c16
              by_cases c28 : x7_2 = true
              · subst c28
                have H1 : (if x5_1.length < 17592186044416 then (replevinref07_Matters.l0 k2 t380 t383 (x5_1 ++ [x6_1]) (wrap64 (x6_1 + 1)) l0_0 l0_1) else (none)) = some r := by rw [if_pos rfl] at H; exact H
                clear H
                have H := H1
                clear H1
                by_cases c29 : x5_1.length < 17592186044416
                · rw [if_pos c29] at H
                  have LMc29 := Aside0.mk c29
                  clear c29
                  obtain ⟨y393, hy393⟩ : ∃ y_ : List Int, y_ = (x5_1 ++ [x6_1]) := ⟨_, rfl⟩
                  replace H : (replevinref07_Matters.l0 k2 t380 t383 y393 (wrap64 (x6_1 + 1)) l0_0 l0_1) = some r := by first | (rw [hy393]; with_reducible exact H) | (have H2_ := (Option.bind_some _ _).symm.trans H; rw [hy393]; with_reducible exact H2_) | (have H2_ := (Option.bind_some _ _).symm.trans H; with_reducible exact H2_) | with_reducible exact H | (rw [hy393]; exact H) | exact H
                  have Ny393 := Aside0.mk hy393
                  clear hy393
                  have H' := Aside0.mk H
                  clear H
                  obtain ⟨Ao30, co30, eo30⟩ := Kd.R_slice HO_4.out
                  subst eo30
                  go_wp2_with (first | ((with_reducible refine gate_builtin (b := .append) (xs := #[.tmp 50, .tmp 52]) rfl ?_); at_builtin; refine Kd.R_append (Kd.int .i64) (w0 := w) w.heap.size rfl (.tmp 50) (.tmp 52) 33 3 (.int .i64 0) 8 rfl Try.underlying33 info3 rfl (by decide) (by omega) u5 x5_1 x6_1 [.int .i64 x6_1] (fun k_ => some k_ ≠ (.slice Ao30 t383.length co30 : Value).ownBlock) (fun _ => False) rfl rfl ?aP (fun _ hk => hk.elim) ?aF ?aO ?aB ?aS ?aL ?_; (case aP => exact rfl); (case aB => exact (by repeat (first | (with_reducible first | exact HB.out | apply below_alloc | apply pw_below_drewN | apply below_drew1 | refine below_set ?_ GE376.out) | exact HB.out))); (case aF => exact (fun k_ hk => Kd.fresh' (Kd.R_lt (by (with_reducible repeat (first | apply Kd.R_alloc | apply Kd.R_drewN | apply Kd.R_drew)); exact HO_4.out)) k_ hk)); (case aO => exact (by (with_reducible repeat (first | apply Kd.R_alloc | apply Kd.R_drewN | apply Kd.R_drew)); exact HO_5.out)); (case aS => exact (below_size (by repeat (first | (with_reducible first | exact HB.out | apply below_alloc | apply pw_below_drewN | apply below_drew1 | refine below_set ?_ GE376.out) | exact HB.out)))); (case aL => have := LMc29.out; omega); intro v394 w31 ho hb hg hat; rw [← Ny393.out] at ho; have n0_ := Aside0.mk (Kd.S_over' (by (with_reducible repeat (first | apply Kd.S_alloc | apply Kd.S_drewN | apply Kd.S_drew)); exact HO_3.out) (Kd.R_typed (by (with_reducible repeat (first | apply Kd.R_alloc | apply Kd.R_drewN | apply Kd.R_drew)); exact HO_5.out)) (by decide) hg); have n1_ := Aside0.mk (Kd.R_after (ok := (fun _ => True)) (by (with_reducible repeat (first | apply Kd.R_alloc | apply Kd.R_drewN | apply Kd.R_drew)); exact Kd.R_mono HO_4.out (fun _ hk => ⟨trivial, hk⟩)) hg hat); have n2_ := Aside0.mk (blk_grown (g := gb376) (o := .cells #[.slice A0_0 l0_0.length c0_0, .slice A0_1 l0_1.length c0_1] 30 (0, 0)) (by (with_reducible repeat (first | refine blk_drewN ?_ _ | refine blk_drew ?_ | refine blk_alloc ?_ _)); exact BK376.out) hg (Kd.R_ne HO_5.out BK376.out (by decide))); have n3_ := Aside0.mk (hb); have n4_ := Aside0.mk (ho); clear HO_3; clear HO_4; clear BK376; clear HB; clear HO_5; have HO_3 := n0_; have HO_4 := n1_; have BK376 := n2_; have HB := n3_; have HO395 := n4_; clear n0_ n1_ n2_ n3_ n4_; clear ho hb hg hat))
                  go_roundg k2
                  case measure => have := HK1.out; have := HK2.out; omega
                  case rel => exact ⟨(y393), (wrap64 (x6_1 + 1)), (by first | rfl | (simp; done) | (simp [*]; done)), H', ⟨by have := HK1.out; have := HK2.out; omega⟩, ⟨by (with_reducible repeat (first | apply Kd.S_alloc | apply Kd.S_drewN | apply Kd.S_drew)); exact HO_3.out⟩, ⟨by (with_reducible repeat (first | apply Kd.R_alloc | apply Kd.R_drewN | apply Kd.R_drew)); exact Kd.R_mono HO_4.out (fun _ hk => hk.2)⟩, ⟨by (with_reducible repeat (first | apply Kd.R_alloc | apply Kd.R_drewN | apply Kd.R_drew)); exact HO395.out⟩, ⟨by (with_reducible repeat (first | refine blk_drewN ?_ _ | refine blk_drew ?_ | refine blk_alloc ?_ _)); exact BK376.out⟩, ⟨by repeat (first | (with_reducible first | exact HB.out | apply below_alloc | apply pw_below_drewN | apply below_drew1 | refine below_set ?_ GE376.out) | exact HB.out)⟩⟩
                · rw [if_neg c29] at H
                  exact absurd H (by simp)
              · replace c28 := Bool.eq_false_iff.mpr c28
                subst c28
                have H1 : (replevinref07_Matters.l0 k2 t380 t383 x5_1 (wrap64 (x6_1 + 1)) l0_0 l0_1) = some r := by rw [if_neg (show ¬ (false = true) by decide)] at H; exact H
                clear H
                have H := H1
                clear H1
                have H' := Aside0.mk H
                clear H
                obtain ⟨Ao32, co32, eo32⟩ := Kd.R_slice HO_4.out
                subst eo32
                go_wp2
                go_roundg k2
                case measure => have := HK1.out; have := HK2.out; omega
                case rel => exact ⟨(x5_1), (wrap64 (x6_1 + 1)), (by first | rfl | (simp; done) | (simp [*]; done)), H', ⟨by have := HK1.out; have := HK2.out; omega⟩, ⟨by (with_reducible repeat (first | apply Kd.S_alloc | apply Kd.S_drewN | apply Kd.S_drew)); exact HO_3.out⟩, ⟨by (with_reducible repeat (first | apply Kd.R_alloc | apply Kd.R_drewN | apply Kd.R_drew)); exact HO_4.out⟩, ⟨by (with_reducible repeat (first | apply Kd.R_alloc | apply Kd.R_drewN | apply Kd.R_drew)); exact HO_5.out⟩, ⟨by (with_reducible repeat (first | refine blk_drewN ?_ _ | refine blk_drew ?_ | refine blk_alloc ?_ _)); exact BK376.out⟩, ⟨by repeat (first | (with_reducible first | exact HB.out | apply below_alloc | apply pw_below_drewN | apply below_drew1 | refine below_set ?_ GE376.out) | exact HB.out)⟩⟩
      · rw [if_neg c14] at H
        have c14b0 : decide (x6_1 < (l0_0.length : Int)) = false := decide_eq_false c14
        clear c14
        obtain rfl := Option.some.inj H
        have hcz33_0 : wr.cell? ⟨gb376, 0, none⟩ = some (.slice A0_0 l0_0.length c0_0) := (blk_cell BK376.out 0).trans rfl
        have hcz33_1 : wr.cell? ⟨gb376, 1, none⟩ = some (.slice A0_1 l0_1.length c0_1) := (blk_cell BK376.out 1).trans rfl
        have hfz33_0 := blk_frozen BK376.out 0
        have hfz33_1 := blk_frozen BK376.out 1
        go_wp2
        go_ret
        exact ⟨_, by first | rfl | (simp [errW_none, errW_some] <;> rfl) | (simp [*, errW_none, errW_some] <;> rfl), by (with_reducible repeat (first | apply Kd.R_alloc | apply Kd.R_drewN | apply Kd.R_drew)); exact Kd.R_mono HO_5.out (fun _ hk => trivial), by repeat (first | (with_reducible first | exact HB.out | apply below_alloc | apply pw_below_drewN | apply below_drew1 | refine below_set ?_ GE376.out) | exact HB.out)⟩

/-! ### replevinref07_Excluded: function 27 -/
mutual
def replevinref07_Excluded.l0 : Nat → List Int → Int → List (S68) → List (S69) → Option (List Int)
  | 0, _, _, _, _ => none
  | k + 1, x3, x4, x397000, x397001 => if x4 < (x397000.length : Int) then (if 0 ≤ x4 then (replevinref07_Excluded.l1 k x3 x4 (!((rd_T68 x397000 x4).f3)) 0 x397000 x397001) else (none)) else (some x3)
def replevinref07_Excluded.l1 : Nat → List Int → Int → Bool → Int → List (S68) → List (S69) → Option (List Int)
  | 0, _, _, _, _, _, _ => none
  | k + 1, x3, x4, x5, x6, x397000, x397001 => if x6 < (x397000.length : Int) then (if x5 = true then (replevinref07_Excluded.l1 k x3 x4 true (wrap64 (x6 + 1)) x397000 x397001) else ((replevinref07_tied.f k x397000 x397001 4 x6 x4).bind fun t401 => (replevinref07_Excluded.l1 k x3 x4 t401 (wrap64 (x6 + 1)) x397000 x397001))) else (if x5 = true then (if x3.length < 17592186044416 then (replevinref07_Excluded.l0 k (x3 ++ [x4]) (wrap64 (x4 + 1)) x397000 x397001) else (none)) else (replevinref07_Excluded.l0 k x3 (wrap64 (x4 + 1)) x397000 x397001))
end
def replevinref07_Excluded.f (k : Nat) (l0_0 : List (S68)) (l0_1 : List (S69)) : Option (List Int) := replevinref07_Excluded.l0 k (([] : List Int)) 0 l0_0 l0_1
theorem replevinref07_Excluded.mono_l : ∀ k, (∀ y0 y1 y2 y3, LeO (replevinref07_Excluded.l0 k y0 y1 y2 y3) (replevinref07_Excluded.l0 (k + 1) y0 y1 y2 y3)) ∧ (∀ y0 y1 y2 y3 y4 y5, LeO (replevinref07_Excluded.l1 k y0 y1 y2 y3 y4 y5) (replevinref07_Excluded.l1 (k + 1) y0 y1 y2 y3 y4 y5))
  | 0 => ⟨fun _ _ _ _ r h => by simp [replevinref07_Excluded.l0] at h, fun _ _ _ _ _ _ r h => by simp [replevinref07_Excluded.l1] at h⟩
  | k + 1 => by
    obtain ⟨ih0, ih1⟩ := replevinref07_Excluded.mono_l k
    refine ⟨?_, ?_⟩
    · intro y0 y1 y2 y3
      unfold replevinref07_Excluded.l0
      repeat' first
      | (with_reducible exact ih0 _ _ _ _)
      | (with_reducible exact ih1 _ _ _ _ _ _)
      | (with_reducible exact replevinref07_tied.mono _ _ _ _ _ _)
      | (with_reducible exact LeO.refl _)
      | (with_reducible exact LeO.none _)
      | (with_reducible refine LeO.ite ?_ ?_)
      | (with_reducible refine LeO.bind ?_ (fun _ => ?_))
      | exact ih0 _ _ _ _
      | exact ih1 _ _ _ _ _ _
      | exact replevinref07_tied.mono _ _ _ _ _ _
      | exact LeO.none _
      | refine LeO.ite ?_ ?_
      | refine LeO.bind ?_ (fun _ => ?_)
    · intro y0 y1 y2 y3 y4 y5
      unfold replevinref07_Excluded.l1
      repeat' first
      | (with_reducible exact ih0 _ _ _ _)
      | (with_reducible exact ih1 _ _ _ _ _ _)
      | (with_reducible exact replevinref07_tied.mono _ _ _ _ _ _)
      | (with_reducible exact LeO.refl _)
      | (with_reducible exact LeO.none _)
      | (with_reducible refine LeO.ite ?_ ?_)
      | (with_reducible refine LeO.bind ?_ (fun _ => ?_))
      | exact ih0 _ _ _ _
      | exact ih1 _ _ _ _ _ _
      | exact replevinref07_tied.mono _ _ _ _ _ _
      | exact LeO.none _
      | refine LeO.ite ?_ ?_
      | refine LeO.bind ?_ (fun _ => ?_)
theorem replevinref07_Excluded.mono : ∀ a0 a1 k, LeO (replevinref07_Excluded.f k a0 a1) (replevinref07_Excluded.f (k + 1) a0 a1) := by
  intro a0 a1 k
  obtain ⟨ih0, ih1⟩ := replevinref07_Excluded.mono_l k
  unfold replevinref07_Excluded.f
  repeat' first
      | (with_reducible exact ih0 _ _ _ _)
      | (with_reducible exact ih1 _ _ _ _ _ _)
      | (with_reducible exact replevinref07_tied.mono _ _ _ _ _ _)
      | (with_reducible exact LeO.refl _)
      | (with_reducible exact LeO.none _)
      | (with_reducible refine LeO.ite ?_ ?_)
      | (with_reducible refine LeO.bind ?_ (fun _ => ?_))
      | exact ih0 _ _ _ _
      | exact ih1 _ _ _ _ _ _
      | exact replevinref07_tied.mono _ _ _ _ _ _
      | exact LeO.none _
      | refine LeO.ite ?_ ?_
      | refine LeO.bind ?_ (fun _ => ?_)
set_option maxHeartbeats 8000000 in
set_option maxRecDepth 100000 in
theorem replevinref07_Excluded.calls (k : Nat) (A0_0 : Option Addr) (c0_0 : Nat) (l0_0 : List (S68)) (A0_1 : Option Addr) (c0_1 : Nat) (l0_1 : List (S69)) (r : List Int) (w : World) (hr0_0 : Kd.C k68 w A0_0 l0_0.length l0_0) (hc0_0 : l0_0.length ≤ c0_0) (hr0_1 : Kd.C k69 w A0_1 l0_1.length l0_1) (hc0_1 : l0_1.length ≤ c0_1) (h : replevinref07_Excluded.f k l0_0 l0_1 = some r) :
    Calls Try.prog 27 #[.agg #[.slice A0_0 l0_0.length c0_0, .slice A0_1 l0_1.length c0_1]] w fun e w' => ∃ v0_ : Value, e = .returned (v0_) ∧ Kd.R (Kd.int .i64) 3 w' w.heap.size (fun _ => True) v0_ r ∧ Below w.heap.size w w' := by
  have hu30 := Try.underlying30
  have HR0_0 := Aside0.mk hr0_0
  have HC0_0 := Aside0.mk hc0_0
  clear hr0_0 hc0_0
  have HR0_1 := Aside0.mk hr0_1
  have HC0_1 := Aside0.mk hc0_1
  clear hr0_1 hc0_1
  have HB := Aside0.mk (Below.refl w.heap.size w)
  have H : (replevinref07_Excluded.l0 k (([] : List Int)) 0 l0_0 l0_1) = some r := h
  clear h
  obtain ⟨y397, hy397⟩ : ∃ y_ : List Int, y_ = (([] : List Int)) := ⟨_, rfl⟩
  replace H : (replevinref07_Excluded.l0 k y397 0 l0_0 l0_1) = some r := by first | (rw [hy397]; with_reducible exact H) | (have H2_ := (Option.bind_some _ _).symm.trans H; rw [hy397]; with_reducible exact H2_) | (have H2_ := (Option.bind_some _ _).symm.trans H; with_reducible exact H2_) | with_reducible exact H | (rw [hy397]; exact H) | exact H
  have Ny397 := Aside0.mk hy397
  clear hy397
  have H' := Aside0.mk H
  clear H
  go_enter Try.func27, Try.ntmps27
  go_wp2_with (first | ((with_reducible refine gate_dst (N := 1) rfl ?_); refine box_event ?hg (N := 1) ?hd (cs := #[.slice A0_0 l0_0.length c0_0, .slice A0_1 l0_1.length c0_1]) (t := 30) ?hr ?_; (case hd => rfl); (case hg => rfl); (case hr => first | (go_simp; done) | (go_simp; rfl)); intro gb396 hg w2 hbox hb; have n0_ := Aside0.mk (below_step (by repeat (first | (with_reducible first | exact HB.out | apply below_alloc | apply pw_below_drewN | apply below_drew1) | exact HB.out)) hb); have n1_ := Aside0.mk (hbox); have n2_ := Aside0.mk ((by rw [hg]; exact (below_size (by repeat (first | (with_reducible first | exact HB.out | apply below_alloc | apply pw_below_drewN | apply below_drew1) | exact HB.out))) : w.heap.size ≤ gb396)); have n3_ := Aside0.mk ((by rw [hg]; exact (below_size (by repeat (first | (with_reducible first | exact HB.out | apply below_alloc | apply pw_below_drewN | apply below_drew1) | exact HB.out))) : w.heap.size ≤ gb396)); clear HB; have HB := n0_; have BK396 := n1_; have GW396 := n2_; have GE396 := n3_; clear n0_ n1_ n2_ n3_; clear hb hbox hg) | ((with_reducible refine gate_dst (N := 7) rfl ?_); refine Kd.R_lit (Kd.int .i64) _ 3 ?hg (N := 7) ?hd (xs := ([] : List Int)) (inner := []) (ok := fun _ => True) (okp := fun _ => True) ?hr ?hp (fun _ hk => hk) trivial (Below.refl _ _) (Nat.le_refl _) (by simp) ?_; (case hd => rfl); (case hg => rfl); (case hr => first | (go_simp; done) | (go_simp; rfl)); (case hp => exact (Reps.none _ _)); intro v398 w3 ho4 hb hg_ hnew_; clear hg_ hnew_; (first | rw [← Ny397.out] at ho4 | (simp only [Int.reduceToNat] at ho4; rw [← Ny397.out] at ho4)); have n0_ := Aside0.mk (Kd.R_lower ho4 (below_size (by repeat (first | (with_reducible first | exact HB.out | apply below_alloc | apply pw_below_drewN | apply below_drew1 | refine below_set ?_ GE396.out) | exact HB.out)))); have n1_ := Aside0.mk (blk_below (g := gb396) (o := .cells #[.slice A0_0 l0_0.length c0_0, .slice A0_1 l0_1.length c0_1] 30 (0, 0)) (by (with_reducible repeat (first | refine blk_drewN ?_ _ | refine blk_drew ?_ | refine blk_alloc ?_ _)); exact BK396.out) hb); have n2_ := Aside0.mk (below_step (by repeat (first | (with_reducible first | exact HB.out | apply below_alloc | apply pw_below_drewN | apply below_drew1 | refine below_set ?_ GE396.out) | exact HB.out)) hb); clear BK396; clear HB; have HO399 := n0_; have BK396 := n1_; have HB := n2_; clear n0_ n1_ n2_; clear hb ho4))
  go_loopg [3, 4] k (fun kq v3 v4 w' => ∃ (x3_1 : List Int) (x4_1 : Int), v4 = .int .i64 x4_1 ∧ Aside0 (replevinref07_Excluded.l0 kq x3_1 x4_1 l0_0 l0_1 = some r) ∧ Aside0 (kq ≤ k) ∧ Aside0 (Kd.R (Kd.int .i64) 3 w' w.heap.size (fun _ => True) v3 x3_1) ∧ Aside0 (w'.heap[gb396]? = some (.cells #[(.slice A0_0 l0_0.length c0_0), (.slice A0_1 l0_1.length c0_1)] 30 (0, 0))) ∧ Aside0 (Below w.heap.size w w'))
  case atStart => exact ⟨(y397), (0), (by first | rfl | (simp; done) | (simp [*]; done)), H', ⟨Nat.le_refl _⟩, ⟨by (with_reducible repeat (first | apply Kd.R_alloc | apply Kd.R_drewN | apply Kd.R_drew)); exact HO399.out⟩, ⟨by (with_reducible repeat (first | refine blk_drewN ?_ _ | refine blk_drew ?_ | refine blk_alloc ?_ _)); exact BK396.out⟩, ⟨by repeat (first | (with_reducible first | exact HB.out | apply below_alloc | apply pw_below_drewN | apply below_drew1 | refine below_set ?_ GE396.out) | exact HB.out)⟩⟩
  case round =>
    clear H'
    try clear c2
    try clear p2
    obtain ⟨x3_1, x4_1, rfl, HA, HK1, HO_3, BK396, HB⟩ := hrel
    cases gk with
    | zero => exact absurd HA.out (by simp [replevinref07_Excluded.l0])
    | succ k1 =>
      have H := HA.out
      clear HA
      simp only [replevinref07_Excluded.l0] at H
      by_cases c5 : x4_1 < (l0_0.length : Int)
      · rw [if_pos c5] at H
        have c5b0 : decide (x4_1 < (l0_0.length : Int)) = true := decide_eq_true c5
        clear c5
        by_cases c6 : 0 ≤ x4_1
        · rw [if_pos c6] at H
          have c6b0 : decide (0 ≤ x4_1) = true := decide_eq_true c6
          clear c6
          have H' := Aside0.mk H
          clear H
          have hcz7_0 : wr.cell? ⟨gb396, 0, none⟩ = some (.slice A0_0 l0_0.length c0_0) := (blk_cell BK396.out 0).trans rfl
          have hcz7_1 : wr.cell? ⟨gb396, 1, none⟩ = some (.slice A0_1 l0_1.length c0_1) := (blk_cell BK396.out 1).trans rfl
          have hfz7_0 := blk_frozen BK396.out 0
          have hfz7_1 := blk_frozen BK396.out 1
          have p400 : 0 ≤ (x4_1 : Int) := of_decide_eq_true (by first | (with_reducible assumption) | assumption)
          have q400 : x4_1 < (l0_0.length : Int) := of_decide_eq_true (by first | (with_reducible assumption) | assumption)
          obtain ⟨ad400, e400, hx400_0, hx400_1, hx400_2, hx400_3, hx400_4, hx400_5⟩ := at_T68 HR0_0.out x4_1 p400 q400
          cases e400
          replace hx400_0 := (HB.out.cell (World.block_lt_of_cell? w _ hx400_0)).trans hx400_0
          replace hx400_1 := (HB.out.cell (World.block_lt_of_cell? w _ hx400_1)).trans hx400_1
          replace hx400_2 := (HB.out.cell (World.block_lt_of_cell? w _ hx400_2)).trans hx400_2
          replace hx400_3 := (HB.out.cell (World.block_lt_of_cell? w _ hx400_3)).trans hx400_3
          replace hx400_4 := (HB.out.cell (World.block_lt_of_cell? w _ hx400_4)).trans hx400_4
          replace hx400_5 := (HB.out.cell (World.block_lt_of_cell? w _ hx400_5)).trans hx400_5
          replace p400 := eq_true p400
          replace q400 := eq_true q400
          go_wp2
          go_loopg [5, 6] k1 (fun kq v5 v6 w' => ∃ (x5_2 : Bool) (x6_2 : Int), v5 = .bool x5_2 ∧ v6 = .int .i64 x6_2 ∧ Aside0 (replevinref07_Excluded.l1 kq x3_1 x4_1 x5_2 x6_2 l0_0 l0_1 = some r) ∧ Aside0 (kq ≤ k1) ∧ Aside0 (Kd.R (Kd.int .i64) 3 w' w.heap.size (fun _ => True) u3 x3_1) ∧ Aside0 (w'.heap[gb396]? = some (.cells #[(.slice (some ad400) l0_0.length c0_0), (.slice A0_1 l0_1.length c0_1)] 30 (0, 0))) ∧ Aside0 (Below w.heap.size w w'))
          case atStart => exact ⟨(!((rd_T68 l0_0 x4_1).f3)), (0), (by first | rfl | (simp; done) | (simp [*]; done)), (by first | rfl | (simp; done) | (simp [*]; done)), H', ⟨Nat.le_refl _⟩, ⟨by (with_reducible repeat (first | apply Kd.R_alloc | apply Kd.R_drewN | apply Kd.R_drew)); exact HO_3.out⟩, ⟨by (with_reducible repeat (first | refine blk_drewN ?_ _ | refine blk_drew ?_ | refine blk_alloc ?_ _)); exact BK396.out⟩, ⟨by repeat (first | (with_reducible first | exact HB.out | apply below_alloc | apply pw_below_drewN | apply below_drew1 | refine below_set ?_ GE396.out) | exact HB.out)⟩⟩
          case round =>
            clear H'
            try clear c2
            try clear p2
            try clear p4
            try clear q4
            try clear hx4
            try clear c5
            try clear c5b0
            try clear c6
            try clear c6b0
            try clear hcz7_0
            try clear hcz7_1
            try clear hfz7_0
            try clear hfz7_1
            try clear hx400_0
            try clear hx400_1
            try clear hx400_2
            try clear hx400_3
            try clear hx400_4
            try clear hx400_5
            try clear p2
            try clear p400
            try clear q400
            obtain ⟨x5_2, x6_2, rfl, rfl, HA, HK2, HO_3, BK396, HB⟩ := hrel
            cases gk with
            | zero => exact absurd HA.out (by simp [replevinref07_Excluded.l1])
            | succ k2 =>
              have H := HA.out
              clear HA
              simp only [replevinref07_Excluded.l1] at H
              by_cases c8 : x6_2 < (l0_0.length : Int)
              · rw [if_pos c8] at H
                have c8b0 : decide (x6_2 < (l0_0.length : Int)) = true := decide_eq_true c8
                clear c8
                by_cases c9 : x5_2 = true
                · subst c9
                  have H1 : (replevinref07_Excluded.l1 k2 x3_1 x4_1 true (wrap64 (x6_2 + 1)) l0_0 l0_1) = some r := by rw [if_pos rfl] at H; exact H
                  clear H
                  have H := H1
                  clear H1
                  have H' := Aside0.mk H
                  clear H
                  have hcz10_0 : wr.cell? ⟨gb396, 0, none⟩ = some (.slice (some ad400) l0_0.length c0_0) := (blk_cell BK396.out 0).trans rfl
                  have hcz10_1 : wr.cell? ⟨gb396, 1, none⟩ = some (.slice A0_1 l0_1.length c0_1) := (blk_cell BK396.out 1).trans rfl
                  have hfz10_0 := blk_frozen BK396.out 0
                  have hfz10_1 := blk_frozen BK396.out 1
                  go_wp2
                  go_roundg k2
                  case measure => have := HK1.out; have := HK2.out; omega
                  case rel => exact ⟨(true), (wrap64 (x6_2 + 1)), (by first | rfl | (simp; done) | (simp [*]; done)), (by first | rfl | (simp; done) | (simp [*]; done)), H', ⟨by have := HK1.out; have := HK2.out; omega⟩, ⟨by (with_reducible repeat (first | apply Kd.R_alloc | apply Kd.R_drewN | apply Kd.R_drew)); exact HO_3.out⟩, ⟨by (with_reducible repeat (first | refine blk_drewN ?_ _ | refine blk_drew ?_ | refine blk_alloc ?_ _)); exact BK396.out⟩, ⟨by repeat (first | (with_reducible first | exact HB.out | apply below_alloc | apply pw_below_drewN | apply below_drew1 | refine below_set ?_ GE396.out) | exact HB.out)⟩⟩
                · replace c9 := Bool.eq_false_iff.mpr c9
                  subst c9
                  have H1 : ((replevinref07_tied.f k2 l0_0 l0_1 4 x6_2 x4_1).bind fun t401 => (replevinref07_Excluded.l1 k2 x3_1 x4_1 t401 (wrap64 (x6_2 + 1)) l0_0 l0_1)) = some r := by rw [if_neg (show ¬ (false = true) by decide)] at H; exact H
                  clear H
                  have H := H1
                  clear H1
                  replace H := Option.bind_eq_some_iff.mp H
                  obtain ⟨t401, A110, H⟩ := H
                  replace H : (replevinref07_Excluded.l1 k2 x3_1 x4_1 t401 (wrap64 (x6_2 + 1)) l0_0 l0_1) = some r := H
                  have A11 := Aside0.mk A110
                  clear A110
                  have H' := Aside0.mk H
                  clear H
                  have hcz12_0 : wr.cell? ⟨gb396, 0, none⟩ = some (.slice (some ad400) l0_0.length c0_0) := (blk_cell BK396.out 0).trans rfl
                  have hcz12_1 : wr.cell? ⟨gb396, 1, none⟩ = some (.slice A0_1 l0_1.length c0_1) := (blk_cell BK396.out 1).trans rfl
                  have hfz12_0 := blk_frozen BK396.out 0
                  have hfz12_1 := blk_frozen BK396.out 1
                  go_wp2_with (first | (go_at_call 46; (with_reducible refine (replevinref07_tied.calls k2 _ _ l0_0 _ _ l0_1 4 x6_2 x4_1 t401 _ ?side1 ?side2 ?side3 ?side4 A11.out).mono ?_); (case side1 => repeat (first | exact (Kd.C_below HR0_0.out HB.out) | (with_reducible refine Kd.C_alloc ?_ _) | (with_reducible refine Kd.C_drewN ?_ _) | (with_reducible refine Kd.C_drew ?_))); (case side2 => exact HC0_0.out); (case side3 => repeat (first | exact (Kd.C_below HR0_1.out HB.out) | (with_reducible refine Kd.C_alloc ?_ _) | (with_reducible refine Kd.C_drewN ?_ _) | (with_reducible refine Kd.C_drew ?_))); (case side4 => exact HC0_1.out); rintro e w13 ⟨rfl, hb⟩; have n0_ := Aside0.mk (Kd.R_below (by (with_reducible repeat (first | apply Kd.R_alloc | apply Kd.R_drewN | apply Kd.R_drew)); exact HO_3.out) hb); have n1_ := Aside0.mk (blk_below (g := gb396) (o := .cells #[.slice (some ad400) l0_0.length c0_0, .slice A0_1 l0_1.length c0_1] 30 (0, 0)) (by (with_reducible repeat (first | refine blk_drewN ?_ _ | refine blk_drew ?_ | refine blk_alloc ?_ _)); exact BK396.out) hb); have n2_ := Aside0.mk (below_step (by repeat (first | (with_reducible first | exact HB.out | apply below_alloc | apply pw_below_drewN | apply below_drew1 | refine below_set ?_ GE396.out) | exact HB.out)) hb); clear HO_3; clear BK396; clear HB; have HO_3 := n0_; have BK396 := n1_; have HB := n2_; clear n0_ n1_ n2_; (try clear hb); (try clear hb2); (try clear hk); (try clear hi)))
                  go_roundg k2
                  case measure => have := HK1.out; have := HK2.out; omega
                  case rel => exact ⟨(t401), (wrap64 (x6_2 + 1)), (by first | rfl | (simp; done) | (simp [*]; done)), (by first | rfl | (simp; done) | (simp [*]; done)), H', ⟨by have := HK1.out; have := HK2.out; omega⟩, ⟨by (with_reducible repeat (first | apply Kd.R_alloc | apply Kd.R_drewN | apply Kd.R_drew)); exact HO_3.out⟩, ⟨by (with_reducible repeat (first | refine blk_drewN ?_ _ | refine blk_drew ?_ | refine blk_alloc ?_ _)); exact BK396.out⟩, ⟨by repeat (first | (with_reducible first | exact HB.out | apply below_alloc | apply pw_below_drewN | apply below_drew1 | refine below_set ?_ GE396.out) | exact HB.out)⟩⟩
              · rw [if_neg c8] at H
                have c8b0 : decide (x6_2 < (l0_0.length : Int)) = false := decide_eq_false c8
                clear c8
                by_cases c14 : x5_2 = true
                · subst c14
                  have H1 : (if x3_1.length < 17592186044416 then (replevinref07_Excluded.l0 k2 (x3_1 ++ [x4_1]) (wrap64 (x4_1 + 1)) l0_0 l0_1) else (none)) = some r := by rw [if_pos rfl] at H; exact H
                  clear H
                  have H := H1
                  clear H1
                  by_cases c15 : x3_1.length < 17592186044416
                  · rw [if_pos c15] at H
                    have LMc15 := Aside0.mk c15
                    clear c15
                    obtain ⟨y402, hy402⟩ : ∃ y_ : List Int, y_ = (x3_1 ++ [x4_1]) := ⟨_, rfl⟩
                    replace H : (replevinref07_Excluded.l0 k2 y402 (wrap64 (x4_1 + 1)) l0_0 l0_1) = some r := by first | (rw [hy402]; with_reducible exact H) | (have H2_ := (Option.bind_some _ _).symm.trans H; rw [hy402]; with_reducible exact H2_) | (have H2_ := (Option.bind_some _ _).symm.trans H; with_reducible exact H2_) | with_reducible exact H | (rw [hy402]; exact H) | exact H
                    have Ny402 := Aside0.mk hy402
                    clear hy402
                    have H' := Aside0.mk H
                    clear H
                    have hcz16_0 : wr.cell? ⟨gb396, 0, none⟩ = some (.slice (some ad400) l0_0.length c0_0) := (blk_cell BK396.out 0).trans rfl
                    have hcz16_1 : wr.cell? ⟨gb396, 1, none⟩ = some (.slice A0_1 l0_1.length c0_1) := (blk_cell BK396.out 1).trans rfl
                    have hfz16_0 := blk_frozen BK396.out 0
                    have hfz16_1 := blk_frozen BK396.out 1
                    go_wp2_with (first | ((with_reducible refine gate_builtin (b := .append) (xs := #[.tmp 37, .tmp 39]) rfl ?_); at_builtin; refine Kd.R_append (Kd.int .i64) (w0 := w) w.heap.size rfl (.tmp 37) (.tmp 39) 33 3 (.int .i64 0) 8 rfl Try.underlying33 info3 rfl (by decide) (by omega) u3 x3_1 x4_1 [.int .i64 x4_1] (fun _ => True) (fun _ => False) rfl rfl ?aP (fun _ hk => hk.elim) ?aF ?aO ?aB ?aS ?aL ?_; (case aP => exact rfl); (case aB => exact (by repeat (first | (with_reducible first | exact HB.out | apply below_alloc | apply pw_below_drewN | apply below_drew1 | refine below_set ?_ GE396.out) | exact HB.out))); (case aF => exact (fun _ _ => trivial)); (case aO => exact (by (with_reducible repeat (first | apply Kd.R_alloc | apply Kd.R_drewN | apply Kd.R_drew)); exact HO_3.out)); (case aS => exact (below_size (by repeat (first | (with_reducible first | exact HB.out | apply below_alloc | apply pw_below_drewN | apply below_drew1 | refine below_set ?_ GE396.out) | exact HB.out)))); (case aL => have := LMc15.out; omega); intro v403 w17 ho hb hg hat; rw [← Ny402.out] at ho; have n0_ := Aside0.mk (blk_grown (g := gb396) (o := .cells #[.slice (some ad400) l0_0.length c0_0, .slice A0_1 l0_1.length c0_1] 30 (0, 0)) (by (with_reducible repeat (first | refine blk_drewN ?_ _ | refine blk_drew ?_ | refine blk_alloc ?_ _)); exact BK396.out) hg (Kd.R_ne HO_3.out BK396.out (by decide))); have n1_ := Aside0.mk (hb); have n2_ := Aside0.mk (ho); clear BK396; clear HB; clear HO_3; have BK396 := n0_; have HB := n1_; have HO404 := n2_; clear n0_ n1_ n2_; clear ho hb hg hat))
                    go_roundg k2
                    case measure => have := HK1.out; have := HK2.out; omega
                    case rel => exact ⟨(y402), (wrap64 (x4_1 + 1)), (by first | rfl | (simp; done) | (simp [*]; done)), H', ⟨by have := HK1.out; have := HK2.out; omega⟩, ⟨by (with_reducible repeat (first | apply Kd.R_alloc | apply Kd.R_drewN | apply Kd.R_drew)); exact HO404.out⟩, ⟨by (with_reducible repeat (first | refine blk_drewN ?_ _ | refine blk_drew ?_ | refine blk_alloc ?_ _)); exact BK396.out⟩, ⟨by repeat (first | (with_reducible first | exact HB.out | apply below_alloc | apply pw_below_drewN | apply below_drew1 | refine below_set ?_ GE396.out) | exact HB.out)⟩⟩
                  · rw [if_neg c15] at H
                    exact absurd H (by simp)
                · replace c14 := Bool.eq_false_iff.mpr c14
                  subst c14
                  have H1 : (replevinref07_Excluded.l0 k2 x3_1 (wrap64 (x4_1 + 1)) l0_0 l0_1) = some r := by rw [if_neg (show ¬ (false = true) by decide)] at H; exact H
                  clear H
                  have H := H1
                  clear H1
                  have H' := Aside0.mk H
                  clear H
                  have hcz18_0 : wr.cell? ⟨gb396, 0, none⟩ = some (.slice (some ad400) l0_0.length c0_0) := (blk_cell BK396.out 0).trans rfl
                  have hcz18_1 : wr.cell? ⟨gb396, 1, none⟩ = some (.slice A0_1 l0_1.length c0_1) := (blk_cell BK396.out 1).trans rfl
                  have hfz18_0 := blk_frozen BK396.out 0
                  have hfz18_1 := blk_frozen BK396.out 1
                  go_wp2
                  go_roundg k2
                  case measure => have := HK1.out; have := HK2.out; omega
                  case rel => exact ⟨(x3_1), (wrap64 (x4_1 + 1)), (by first | rfl | (simp; done) | (simp [*]; done)), H', ⟨by have := HK1.out; have := HK2.out; omega⟩, ⟨by (with_reducible repeat (first | apply Kd.R_alloc | apply Kd.R_drewN | apply Kd.R_drew)); exact HO_3.out⟩, ⟨by (with_reducible repeat (first | refine blk_drewN ?_ _ | refine blk_drew ?_ | refine blk_alloc ?_ _)); exact BK396.out⟩, ⟨by repeat (first | (with_reducible first | exact HB.out | apply below_alloc | apply pw_below_drewN | apply below_drew1 | refine below_set ?_ GE396.out) | exact HB.out)⟩⟩
        · rw [if_neg c6] at H
          exact absurd H (by simp)
      · rw [if_neg c5] at H
        have c5b0 : decide (x4_1 < (l0_0.length : Int)) = false := decide_eq_false c5
        clear c5
        obtain rfl := Option.some.inj H
        have hcz19_0 : wr.cell? ⟨gb396, 0, none⟩ = some (.slice A0_0 l0_0.length c0_0) := (blk_cell BK396.out 0).trans rfl
        have hcz19_1 : wr.cell? ⟨gb396, 1, none⟩ = some (.slice A0_1 l0_1.length c0_1) := (blk_cell BK396.out 1).trans rfl
        have hfz19_0 := blk_frozen BK396.out 0
        have hfz19_1 := blk_frozen BK396.out 1
        go_wp2
        go_ret
        exact ⟨_, by first | rfl | (simp [errW_none, errW_some] <;> rfl) | (simp [*, errW_none, errW_some] <;> rfl), by (with_reducible repeat (first | apply Kd.R_alloc | apply Kd.R_drewN | apply Kd.R_drew)); exact HO_3.out, by repeat (first | (with_reducible first | exact HB.out | apply below_alloc | apply pw_below_drewN | apply below_drew1 | refine below_set ?_ GE396.out) | exact HB.out)⟩

end Go.Proofs.Ytofgaeiihclokaa.P
