/- Functions of the program and of the law as Lean functions, with the proof that the calls answer so; written by a program. No conditions beyond those typed. -/
import Derived.Test.YtofgaeiihclokaaP0
namespace Go.Proofs.Ytofgaeiihclokaa.P
open Go.RowKit Go.Proofs.YtofgaeiihclokaaW.PrintWords Go.Proofs.YtofgaeiihclokaaW.PrintLast Go.Proofs.YtofgaeiihclokaaW.PrintMore
attribute [local go_sem] max2_int min2_int max_two min_two max_three min_three max_four min_four   -- for this text's walks alone
set_option linter.unusedVariables false
set_option linter.unusedSimpArgs false

/-! ### replevinref07_Delay: function 29 -/
def replevinref07_Delay.l0 : Nat → Int → Int → Int → List (S68) → List (S69) → Option (Int)
  | 0, _, _, _, _, _ => none
  | k + 1, x1, x5, x6, x406000, x406001 => if x6 < (x406001.length : Int) then (if 0 ≤ x6 then (if ((rd_T69 x406001 x6).f0) = 1 then (if ((rd_T69 x406001 x6).f2) = x1 then (if x1 ≥ 0 then (if x1 < (x406000.length : Int) then (if ((rd_T69 x406001 x6).f1) ≥ 0 then (if ((rd_T69 x406001 x6).f1) < (x406000.length : Int) then (if ((rd_T69 x406001 x6).f3) > x5 then (replevinref07_Delay.l0 k x1 ((rd_T69 x406001 x6).f3) (wrap64 (x6 + 1)) x406000 x406001) else (replevinref07_Delay.l0 k x1 x5 (wrap64 (x6 + 1)) x406000 x406001)) else (replevinref07_Delay.l0 k x1 x5 (wrap64 (x6 + 1)) x406000 x406001)) else (replevinref07_Delay.l0 k x1 x5 (wrap64 (x6 + 1)) x406000 x406001)) else (replevinref07_Delay.l0 k x1 x5 (wrap64 (x6 + 1)) x406000 x406001)) else (replevinref07_Delay.l0 k x1 x5 (wrap64 (x6 + 1)) x406000 x406001)) else (replevinref07_Delay.l0 k x1 x5 (wrap64 (x6 + 1)) x406000 x406001)) else (replevinref07_Delay.l0 k x1 x5 (wrap64 (x6 + 1)) x406000 x406001)) else (none)) else (some x5)
def replevinref07_Delay.f (k : Nat) (l0_0 : List (S68)) (l0_1 : List (S69)) (a1 : Int) : Option (Int) := replevinref07_Delay.l0 k a1 0 0 l0_0 l0_1
theorem replevinref07_Delay.mono_l : ∀ k, (∀ y0 y1 y2 y3 y4, LeO (replevinref07_Delay.l0 k y0 y1 y2 y3 y4) (replevinref07_Delay.l0 (k + 1) y0 y1 y2 y3 y4))
  | 0 => fun _ _ _ _ _ r h => by simp [replevinref07_Delay.l0] at h
  | k + 1 => by
    have ih0 := replevinref07_Delay.mono_l k
    · intro y0 y1 y2 y3 y4
      unfold replevinref07_Delay.l0
      repeat' first
      | (with_reducible exact ih0 _ _ _ _ _)
      | (with_reducible exact LeO.refl _)
      | (with_reducible exact LeO.none _)
      | (with_reducible refine LeO.ite ?_ ?_)
      | (with_reducible refine LeO.bind ?_ (fun _ => ?_))
      | exact ih0 _ _ _ _ _
      | exact LeO.none _
      | refine LeO.ite ?_ ?_
      | refine LeO.bind ?_ (fun _ => ?_)
theorem replevinref07_Delay.mono : ∀ a0 a1 a2 k, LeO (replevinref07_Delay.f k a0 a1 a2) (replevinref07_Delay.f (k + 1) a0 a1 a2) := by
  intro a0 a1 a2 k
  have ih0 := replevinref07_Delay.mono_l k
  unfold replevinref07_Delay.f
  repeat' first
      | (with_reducible exact ih0 _ _ _ _ _)
      | (with_reducible exact LeO.refl _)
      | (with_reducible exact LeO.none _)
      | (with_reducible refine LeO.ite ?_ ?_)
      | (with_reducible refine LeO.bind ?_ (fun _ => ?_))
      | exact ih0 _ _ _ _ _
      | exact LeO.none _
      | refine LeO.ite ?_ ?_
      | refine LeO.bind ?_ (fun _ => ?_)
set_option maxHeartbeats 8000000 in
set_option maxRecDepth 100000 in
theorem replevinref07_Delay.calls (k : Nat) (A0_0 : Option Addr) (c0_0 : Nat) (l0_0 : List (S68)) (A0_1 : Option Addr) (c0_1 : Nat) (l0_1 : List (S69)) (a1 : Int) (r : Int) (w : World) (hr0_0 : Kd.C k68 w A0_0 l0_0.length l0_0) (hc0_0 : l0_0.length ≤ c0_0) (hr0_1 : Kd.C k69 w A0_1 l0_1.length l0_1) (hc0_1 : l0_1.length ≤ c0_1) (h : replevinref07_Delay.f k l0_0 l0_1 a1 = some r) :
    Calls Try.prog 29 #[.agg #[.slice A0_0 l0_0.length c0_0, .slice A0_1 l0_1.length c0_1], .int .i64 a1] w fun e w' => e = .returned (.int .i64 r) ∧ Below w.heap.size w w' := by
  have hu30 := Try.underlying30
  have hu69 := Try.underlying69
  have HR0_0 := Aside0.mk hr0_0
  have HC0_0 := Aside0.mk hc0_0
  clear hr0_0 hc0_0
  have HR0_1 := Aside0.mk hr0_1
  have HC0_1 := Aside0.mk hc0_1
  clear hr0_1 hc0_1
  have HB := Aside0.mk (Below.refl w.heap.size w)
  have H : (replevinref07_Delay.l0 k a1 0 0 l0_0 l0_1) = some r := h
  clear h
  have H' := Aside0.mk H
  clear H
  go_enter Try.func29, Try.ntmps29
  go_wp2_with (first | ((with_reducible refine gate_dst (N := 2) rfl ?_); (try (refine gate_guard (by rfl) ?_; dsimp only)); refine box_event ?hg (N := 2) ?hd (cs := #[.slice A0_0 l0_0.length c0_0, .slice A0_1 l0_1.length c0_1]) (t := 30) ?hr ?_; (case hd => rfl); (case hg => rfl); (case hr => first | (go_simp; done) | (go_simp; rfl)); intro gb405 hg w3 hbox hb; have n0_ := Aside0.mk (below_step (by repeat (first | (with_reducible first | exact HB.out | apply below_alloc | apply pw_below_drewN | apply below_drew1) | exact HB.out)) hb); have n1_ := Aside0.mk (hbox); have n2_ := Aside0.mk ((by rw [hg]; exact (below_size (by repeat (first | (with_reducible first | exact HB.out | apply below_alloc | apply pw_below_drewN | apply below_drew1) | exact HB.out))) : w.heap.size ≤ gb405)); have n3_ := Aside0.mk ((by rw [hg]; exact (below_size (by repeat (first | (with_reducible first | exact HB.out | apply below_alloc | apply pw_below_drewN | apply below_drew1) | exact HB.out))) : w.heap.size ≤ gb405)); clear HB; have HB := n0_; have BK405 := n1_; have GW405 := n2_; have GE405 := n3_; clear n0_ n1_ n2_ n3_; clear hb hbox hg))
  go_loopg [5, 6] k (fun kq v5 v6 w' => ∃ (x5_1 : Int) (x6_1 : Int), v5 = .int .i64 x5_1 ∧ v6 = .int .i64 x6_1 ∧ Aside0 (replevinref07_Delay.l0 kq a1 x5_1 x6_1 l0_0 l0_1 = some r) ∧ Aside0 (kq ≤ k) ∧ Aside0 (w'.heap[gb405]? = some (.cells #[(.slice A0_0 l0_0.length c0_0), (.slice A0_1 l0_1.length c0_1)] 30 (0, 0))) ∧ Aside0 (Below w.heap.size w w'))
  case atStart => exact ⟨(0), (0), (by first | rfl | (simp; done) | (simp [*]; done)), (by first | rfl | (simp; done) | (simp [*]; done)), H', ⟨Nat.le_refl _⟩, ⟨by (with_reducible repeat (first | refine blk_drewN ?_ _ | refine blk_drew ?_ | refine blk_alloc ?_ _)); exact BK405.out⟩, ⟨by repeat (first | (with_reducible first | exact HB.out | apply below_alloc | apply pw_below_drewN | apply below_drew1 | refine below_set ?_ GE405.out) | exact HB.out)⟩⟩
  case round =>
    clear H'
    try clear c2
    try clear p2
    obtain ⟨x5_1, x6_1, rfl, rfl, HA, HK1, BK405, HB⟩ := hrel
    cases gk with
    | zero => exact absurd HA.out (by simp [replevinref07_Delay.l0])
    | succ k1 =>
      have H := HA.out
      clear HA
      simp only [replevinref07_Delay.l0] at H
      by_cases c4 : x6_1 < (l0_1.length : Int)
      · rw [if_pos c4] at H
        have c4b0 : decide (x6_1 < (l0_1.length : Int)) = true := decide_eq_true c4
        clear c4
        by_cases c5 : 0 ≤ x6_1
        · rw [if_pos c5] at H
          have c5b0 : decide (0 ≤ x6_1) = true := decide_eq_true c5
          clear c5
          by_cases c6 : ((rd_T69 l0_1 x6_1).f0) = 1
          · rw [if_pos c6] at H
            have c6b0 : (((rd_T69 l0_1 x6_1).f0) == 1) = true := beq_iff_eq.mpr c6
            have c6b1 : (((rd_T69 l0_1 x6_1).f0) != 1) = false := bne_eq_false_iff_eq.mpr c6
            clear c6
            by_cases c7 : ((rd_T69 l0_1 x6_1).f2) = a1
            · rw [if_pos c7] at H
              have c7b0 : (((rd_T69 l0_1 x6_1).f2) == a1) = true := beq_iff_eq.mpr c7
              have c7b1 : (((rd_T69 l0_1 x6_1).f2) != a1) = false := bne_eq_false_iff_eq.mpr c7
              clear c7
              by_cases c8 : a1 ≥ 0
              · rw [if_pos c8] at H
                have c8b0 : decide (0 ≤ a1) = true := decide_eq_true c8
                clear c8
                by_cases c9 : a1 < (l0_0.length : Int)
                · rw [if_pos c9] at H
                  have c9b0 : decide (a1 < (l0_0.length : Int)) = true := decide_eq_true c9
                  clear c9
                  by_cases c10 : ((rd_T69 l0_1 x6_1).f1) ≥ 0
                  · rw [if_pos c10] at H
                    have c10b0 : decide (0 ≤ ((rd_T69 l0_1 x6_1).f1)) = true := decide_eq_true c10
                    clear c10
                    by_cases c11 : ((rd_T69 l0_1 x6_1).f1) < (l0_0.length : Int)
                    · rw [if_pos c11] at H
                      have c11b0 : decide (((rd_T69 l0_1 x6_1).f1) < (l0_0.length : Int)) = true := decide_eq_true c11
                      clear c11
                      by_cases c12 : ((rd_T69 l0_1 x6_1).f3) > x5_1
                      · rw [if_pos c12] at H
                        have c12b0 : decide (x5_1 < ((rd_T69 l0_1 x6_1).f3)) = true := decide_eq_true c12
                        clear c12
                        have H' := Aside0.mk H
                        clear H
                        have hcz13_0 : wr.cell? ⟨gb405, 0, none⟩ = some (.slice A0_0 l0_0.length c0_0) := (blk_cell BK405.out 0).trans rfl
                        have hcz13_1 : wr.cell? ⟨gb405, 1, none⟩ = some (.slice A0_1 l0_1.length c0_1) := (blk_cell BK405.out 1).trans rfl
                        have hfz13_0 := blk_frozen BK405.out 0
                        have hfz13_1 := blk_frozen BK405.out 1
                        have p406 : 0 ≤ (x6_1 : Int) := of_decide_eq_true (by first | (with_reducible assumption) | assumption)
                        have q406 : x6_1 < (l0_1.length : Int) := of_decide_eq_true (by first | (with_reducible assumption) | assumption)
                        obtain ⟨ad406, e406, hx406_0, hx406_1, hx406_2, hx406_3⟩ := at_T69 HR0_1.out x6_1 p406 q406
                        cases e406
                        replace hx406_0 := (HB.out.cell (World.block_lt_of_cell? w _ hx406_0)).trans hx406_0
                        replace hx406_1 := (HB.out.cell (World.block_lt_of_cell? w _ hx406_1)).trans hx406_1
                        replace hx406_2 := (HB.out.cell (World.block_lt_of_cell? w _ hx406_2)).trans hx406_2
                        replace hx406_3 := (HB.out.cell (World.block_lt_of_cell? w _ hx406_3)).trans hx406_3
                        replace p406 := eq_true p406
                        replace q406 := eq_true q406
                        go_wp2_with (first | ((with_reducible refine gate_dst (N := 7) rfl ?_); (try (refine gate_guard (by rfl) ?_; dsimp only)); refine box_event ?hg (N := 7) ?hd (cs := #[.int .i64 0, .int .i64 0, .int .i64 0, .int .i64 0]) (t := 69) ?hr ?_; (case hd => rfl); (case hg => rfl); (case hr => first | (go_simp; done) | (go_simp; rfl)); intro gb407 hg w14 hbox hb; have n0_ := Aside0.mk (blk_below (g := gb405) (o := .cells #[.slice A0_0 l0_0.length c0_0, .slice (some ad406) l0_1.length c0_1] 30 (0, 0)) (by (with_reducible repeat (first | refine blk_drewN ?_ _ | refine blk_drew ?_ | refine blk_alloc ?_ _)); exact BK405.out) hb); have n1_ := Aside0.mk (below_step (by repeat (first | (with_reducible first | exact HB.out | apply below_alloc | apply pw_below_drewN | apply below_drew1 | refine below_set ?_ GE405.out) | exact HB.out)) hb); have n2_ := Aside0.mk (hbox); have n3_ := Aside0.mk ((by rw [hg]; exact (below_size (by repeat (first | (with_reducible first | exact HB.out | apply below_alloc | apply pw_below_drewN | apply below_drew1 | refine below_set ?_ GE405.out) | exact HB.out))) : w.heap.size ≤ gb407)); have n4_ := Aside0.mk ((by rw [hg]; exact (below_size (by repeat (first | (with_reducible first | exact HB.out | apply below_alloc | apply pw_below_drewN | apply below_drew1 | refine below_set ?_ GE405.out) | exact HB.out))) : w.heap.size ≤ gb407)); have n5_ := Aside0.mk ((by rw [hg]; exact Nat.ne_of_lt (blk_lt (g := gb405) (o := .cells #[.slice A0_0 l0_0.length c0_0, .slice (some ad406) l0_1.length c0_1] 30 (0, 0)) (by (with_reducible repeat (first | refine blk_drewN ?_ _ | refine blk_drew ?_ | refine blk_alloc ?_ _)); exact BK405.out)) : gb405 ≠ gb407)); have n6_ := Aside0.mk ((by rw [hg]; exact Nat.ne_of_gt (blk_lt (g := gb405) (o := .cells #[.slice A0_0 l0_0.length c0_0, .slice (some ad406) l0_1.length c0_1] 30 (0, 0)) (by (with_reducible repeat (first | refine blk_drewN ?_ _ | refine blk_drew ?_ | refine blk_alloc ?_ _)); exact BK405.out)) : gb407 ≠ gb405)); clear BK405; clear HB; have BK405 := n0_; have HB := n1_; have BK407 := n2_; have GW407 := n3_; have GE407 := n4_; have NB405_407 := n5_; have NB407_405 := n6_; clear n0_ n1_ n2_ n3_ n4_ n5_ n6_; clear hb hbox hg; have hnb15 := NB407_405.out; have hnc15 := NB405_407.out; have hcz16_0 : w14.cell? ⟨gb407, 0, none⟩ = some (.int .i64 0) := (blk_cell BK407.out 0).trans rfl; have hcz16_1 : w14.cell? ⟨gb407, 1, none⟩ = some (.int .i64 0) := (blk_cell BK407.out 1).trans rfl; have hcz16_2 : w14.cell? ⟨gb407, 2, none⟩ = some (.int .i64 0) := (blk_cell BK407.out 2).trans rfl; have hcz16_3 : w14.cell? ⟨gb407, 3, none⟩ = some (.int .i64 0) := (blk_cell BK407.out 3).trans rfl; have hfz16_0 := blk_frozen BK407.out 0; have hfz16_1 := blk_frozen BK407.out 1; have hfz16_2 := blk_frozen BK407.out 2; have hfz16_3 := blk_frozen BK407.out 3; have hcz17_0 : w14.cell? ⟨gb405, 0, none⟩ = some (.slice A0_0 l0_0.length c0_0) := (blk_cell BK405.out 0).trans rfl; have hcz17_1 : w14.cell? ⟨gb405, 1, none⟩ = some (.slice (some ad406) l0_1.length c0_1) := (blk_cell BK405.out 1).trans rfl; have hfz17_0 := blk_frozen BK405.out 0; have hfz17_1 := blk_frozen BK405.out 1))
                        go_roundg k1
                        case measure => have := HK1.out; omega
                        case rel => exact ⟨((rd_T69 l0_1 x6_1).f3), (wrap64 (x6_1 + 1)), (by first | rfl | (simp; done) | (simp [*]; done)), (by first | rfl | (simp; done) | (simp [*]; done)), H', ⟨by have := HK1.out; omega⟩, ⟨by (with_reducible repeat (first | refine blk_drewN ?_ _ | refine blk_drew ?_ | refine blk_alloc ?_ _)); refine blk_far ?_ NB405_407.out _; (with_reducible repeat (first | refine blk_drewN ?_ _ | refine blk_drew ?_ | refine blk_alloc ?_ _)); refine blk_far ?_ NB405_407.out _; (with_reducible repeat (first | refine blk_drewN ?_ _ | refine blk_drew ?_ | refine blk_alloc ?_ _)); refine blk_far ?_ NB405_407.out _; (with_reducible repeat (first | refine blk_drewN ?_ _ | refine blk_drew ?_ | refine blk_alloc ?_ _)); refine blk_far ?_ NB405_407.out _; (with_reducible repeat (first | refine blk_drewN ?_ _ | refine blk_drew ?_ | refine blk_alloc ?_ _)); exact BK405.out⟩, ⟨by repeat (first | (with_reducible first | exact HB.out | apply below_alloc | apply pw_below_drewN | apply below_drew1 | refine below_set ?_ GE405.out | refine below_set ?_ GE407.out) | exact HB.out)⟩⟩
                      · rw [if_neg c12] at H
                        have c12b0 : decide (x5_1 < ((rd_T69 l0_1 x6_1).f3)) = false := decide_eq_false c12
                        clear c12
                        have H' := Aside0.mk H
                        clear H
                        have hcz18_0 : wr.cell? ⟨gb405, 0, none⟩ = some (.slice A0_0 l0_0.length c0_0) := (blk_cell BK405.out 0).trans rfl
                        have hcz18_1 : wr.cell? ⟨gb405, 1, none⟩ = some (.slice A0_1 l0_1.length c0_1) := (blk_cell BK405.out 1).trans rfl
                        have hfz18_0 := blk_frozen BK405.out 0
                        have hfz18_1 := blk_frozen BK405.out 1
                        have p406 : 0 ≤ (x6_1 : Int) := of_decide_eq_true (by first | (with_reducible assumption) | assumption)
                        have q406 : x6_1 < (l0_1.length : Int) := of_decide_eq_true (by first | (with_reducible assumption) | assumption)
                        obtain ⟨ad406, e406, hx406_0, hx406_1, hx406_2, hx406_3⟩ := at_T69 HR0_1.out x6_1 p406 q406
                        cases e406
                        replace hx406_0 := (HB.out.cell (World.block_lt_of_cell? w _ hx406_0)).trans hx406_0
                        replace hx406_1 := (HB.out.cell (World.block_lt_of_cell? w _ hx406_1)).trans hx406_1
                        replace hx406_2 := (HB.out.cell (World.block_lt_of_cell? w _ hx406_2)).trans hx406_2
                        replace hx406_3 := (HB.out.cell (World.block_lt_of_cell? w _ hx406_3)).trans hx406_3
                        replace p406 := eq_true p406
                        replace q406 := eq_true q406
                        go_wp2_with (first | ((with_reducible refine gate_dst (N := 7) rfl ?_); (try (refine gate_guard (by rfl) ?_; dsimp only)); refine box_event ?hg (N := 7) ?hd (cs := #[.int .i64 0, .int .i64 0, .int .i64 0, .int .i64 0]) (t := 69) ?hr ?_; (case hd => rfl); (case hg => rfl); (case hr => first | (go_simp; done) | (go_simp; rfl)); intro gb407 hg w19 hbox hb; have n0_ := Aside0.mk (blk_below (g := gb405) (o := .cells #[.slice A0_0 l0_0.length c0_0, .slice (some ad406) l0_1.length c0_1] 30 (0, 0)) (by (with_reducible repeat (first | refine blk_drewN ?_ _ | refine blk_drew ?_ | refine blk_alloc ?_ _)); exact BK405.out) hb); have n1_ := Aside0.mk (below_step (by repeat (first | (with_reducible first | exact HB.out | apply below_alloc | apply pw_below_drewN | apply below_drew1 | refine below_set ?_ GE405.out) | exact HB.out)) hb); have n2_ := Aside0.mk (hbox); have n3_ := Aside0.mk ((by rw [hg]; exact (below_size (by repeat (first | (with_reducible first | exact HB.out | apply below_alloc | apply pw_below_drewN | apply below_drew1 | refine below_set ?_ GE405.out) | exact HB.out))) : w.heap.size ≤ gb407)); have n4_ := Aside0.mk ((by rw [hg]; exact (below_size (by repeat (first | (with_reducible first | exact HB.out | apply below_alloc | apply pw_below_drewN | apply below_drew1 | refine below_set ?_ GE405.out) | exact HB.out))) : w.heap.size ≤ gb407)); have n5_ := Aside0.mk ((by rw [hg]; exact Nat.ne_of_lt (blk_lt (g := gb405) (o := .cells #[.slice A0_0 l0_0.length c0_0, .slice (some ad406) l0_1.length c0_1] 30 (0, 0)) (by (with_reducible repeat (first | refine blk_drewN ?_ _ | refine blk_drew ?_ | refine blk_alloc ?_ _)); exact BK405.out)) : gb405 ≠ gb407)); have n6_ := Aside0.mk ((by rw [hg]; exact Nat.ne_of_gt (blk_lt (g := gb405) (o := .cells #[.slice A0_0 l0_0.length c0_0, .slice (some ad406) l0_1.length c0_1] 30 (0, 0)) (by (with_reducible repeat (first | refine blk_drewN ?_ _ | refine blk_drew ?_ | refine blk_alloc ?_ _)); exact BK405.out)) : gb407 ≠ gb405)); clear BK405; clear HB; have BK405 := n0_; have HB := n1_; have BK407 := n2_; have GW407 := n3_; have GE407 := n4_; have NB405_407 := n5_; have NB407_405 := n6_; clear n0_ n1_ n2_ n3_ n4_ n5_ n6_; clear hb hbox hg; have hnb20 := NB407_405.out; have hnc20 := NB405_407.out; have hcz21_0 : w19.cell? ⟨gb407, 0, none⟩ = some (.int .i64 0) := (blk_cell BK407.out 0).trans rfl; have hcz21_1 : w19.cell? ⟨gb407, 1, none⟩ = some (.int .i64 0) := (blk_cell BK407.out 1).trans rfl; have hcz21_2 : w19.cell? ⟨gb407, 2, none⟩ = some (.int .i64 0) := (blk_cell BK407.out 2).trans rfl; have hcz21_3 : w19.cell? ⟨gb407, 3, none⟩ = some (.int .i64 0) := (blk_cell BK407.out 3).trans rfl; have hfz21_0 := blk_frozen BK407.out 0; have hfz21_1 := blk_frozen BK407.out 1; have hfz21_2 := blk_frozen BK407.out 2; have hfz21_3 := blk_frozen BK407.out 3; have hcz22_0 : w19.cell? ⟨gb405, 0, none⟩ = some (.slice A0_0 l0_0.length c0_0) := (blk_cell BK405.out 0).trans rfl; have hcz22_1 : w19.cell? ⟨gb405, 1, none⟩ = some (.slice (some ad406) l0_1.length c0_1) := (blk_cell BK405.out 1).trans rfl; have hfz22_0 := blk_frozen BK405.out 0; have hfz22_1 := blk_frozen BK405.out 1))
                        go_roundg k1
                        case measure => have := HK1.out; omega
                        case rel => exact ⟨(x5_1), (wrap64 (x6_1 + 1)), (by first | rfl | (simp; done) | (simp [*]; done)), (by first | rfl | (simp; done) | (simp [*]; done)), H', ⟨by have := HK1.out; omega⟩, ⟨by (with_reducible repeat (first | refine blk_drewN ?_ _ | refine blk_drew ?_ | refine blk_alloc ?_ _)); refine blk_far ?_ NB405_407.out _; (with_reducible repeat (first | refine blk_drewN ?_ _ | refine blk_drew ?_ | refine blk_alloc ?_ _)); refine blk_far ?_ NB405_407.out _; (with_reducible repeat (first | refine blk_drewN ?_ _ | refine blk_drew ?_ | refine blk_alloc ?_ _)); refine blk_far ?_ NB405_407.out _; (with_reducible repeat (first | refine blk_drewN ?_ _ | refine blk_drew ?_ | refine blk_alloc ?_ _)); refine blk_far ?_ NB405_407.out _; (with_reducible repeat (first | refine blk_drewN ?_ _ | refine blk_drew ?_ | refine blk_alloc ?_ _)); exact BK405.out⟩, ⟨by repeat (first | (with_reducible first | exact HB.out | apply below_alloc | apply pw_below_drewN | apply below_drew1 | refine below_set ?_ GE405.out | refine below_set ?_ GE407.out) | exact HB.out)⟩⟩
                    · rw [if_neg c11] at H
                      have c11b0 : decide (((rd_T69 l0_1 x6_1).f1) < (l0_0.length : Int)) = false := decide_eq_false c11
                      clear c11
                      have H' := Aside0.mk H
                      clear H
                      have hcz23_0 : wr.cell? ⟨gb405, 0, none⟩ = some (.slice A0_0 l0_0.length c0_0) := (blk_cell BK405.out 0).trans rfl
                      have hcz23_1 : wr.cell? ⟨gb405, 1, none⟩ = some (.slice A0_1 l0_1.length c0_1) := (blk_cell BK405.out 1).trans rfl
                      have hfz23_0 := blk_frozen BK405.out 0
                      have hfz23_1 := blk_frozen BK405.out 1
                      have p406 : 0 ≤ (x6_1 : Int) := of_decide_eq_true (by first | (with_reducible assumption) | assumption)
                      have q406 : x6_1 < (l0_1.length : Int) := of_decide_eq_true (by first | (with_reducible assumption) | assumption)
                      obtain ⟨ad406, e406, hx406_0, hx406_1, hx406_2, hx406_3⟩ := at_T69 HR0_1.out x6_1 p406 q406
                      cases e406
                      replace hx406_0 := (HB.out.cell (World.block_lt_of_cell? w _ hx406_0)).trans hx406_0
                      replace hx406_1 := (HB.out.cell (World.block_lt_of_cell? w _ hx406_1)).trans hx406_1
                      replace hx406_2 := (HB.out.cell (World.block_lt_of_cell? w _ hx406_2)).trans hx406_2
                      replace hx406_3 := (HB.out.cell (World.block_lt_of_cell? w _ hx406_3)).trans hx406_3
                      replace p406 := eq_true p406
                      replace q406 := eq_true q406
                      go_wp2_with (first | ((with_reducible refine gate_dst (N := 7) rfl ?_); (try (refine gate_guard (by rfl) ?_; dsimp only)); refine box_event ?hg (N := 7) ?hd (cs := #[.int .i64 0, .int .i64 0, .int .i64 0, .int .i64 0]) (t := 69) ?hr ?_; (case hd => rfl); (case hg => rfl); (case hr => first | (go_simp; done) | (go_simp; rfl)); intro gb407 hg w24 hbox hb; have n0_ := Aside0.mk (blk_below (g := gb405) (o := .cells #[.slice A0_0 l0_0.length c0_0, .slice (some ad406) l0_1.length c0_1] 30 (0, 0)) (by (with_reducible repeat (first | refine blk_drewN ?_ _ | refine blk_drew ?_ | refine blk_alloc ?_ _)); exact BK405.out) hb); have n1_ := Aside0.mk (below_step (by repeat (first | (with_reducible first | exact HB.out | apply below_alloc | apply pw_below_drewN | apply below_drew1 | refine below_set ?_ GE405.out) | exact HB.out)) hb); have n2_ := Aside0.mk (hbox); have n3_ := Aside0.mk ((by rw [hg]; exact (below_size (by repeat (first | (with_reducible first | exact HB.out | apply below_alloc | apply pw_below_drewN | apply below_drew1 | refine below_set ?_ GE405.out) | exact HB.out))) : w.heap.size ≤ gb407)); have n4_ := Aside0.mk ((by rw [hg]; exact (below_size (by repeat (first | (with_reducible first | exact HB.out | apply below_alloc | apply pw_below_drewN | apply below_drew1 | refine below_set ?_ GE405.out) | exact HB.out))) : w.heap.size ≤ gb407)); have n5_ := Aside0.mk ((by rw [hg]; exact Nat.ne_of_lt (blk_lt (g := gb405) (o := .cells #[.slice A0_0 l0_0.length c0_0, .slice (some ad406) l0_1.length c0_1] 30 (0, 0)) (by (with_reducible repeat (first | refine blk_drewN ?_ _ | refine blk_drew ?_ | refine blk_alloc ?_ _)); exact BK405.out)) : gb405 ≠ gb407)); have n6_ := Aside0.mk ((by rw [hg]; exact Nat.ne_of_gt (blk_lt (g := gb405) (o := .cells #[.slice A0_0 l0_0.length c0_0, .slice (some ad406) l0_1.length c0_1] 30 (0, 0)) (by (with_reducible repeat (first | refine blk_drewN ?_ _ | refine blk_drew ?_ | refine blk_alloc ?_ _)); exact BK405.out)) : gb407 ≠ gb405)); clear BK405; clear HB; have BK405 := n0_; have HB := n1_; have BK407 := n2_; have GW407 := n3_; have GE407 := n4_; have NB405_407 := n5_; have NB407_405 := n6_; clear n0_ n1_ n2_ n3_ n4_ n5_ n6_; clear hb hbox hg; have hnb25 := NB407_405.out; have hnc25 := NB405_407.out; have hcz26_0 : w24.cell? ⟨gb407, 0, none⟩ = some (.int .i64 0) := (blk_cell BK407.out 0).trans rfl; have hcz26_1 : w24.cell? ⟨gb407, 1, none⟩ = some (.int .i64 0) := (blk_cell BK407.out 1).trans rfl; have hcz26_2 : w24.cell? ⟨gb407, 2, none⟩ = some (.int .i64 0) := (blk_cell BK407.out 2).trans rfl; have hcz26_3 : w24.cell? ⟨gb407, 3, none⟩ = some (.int .i64 0) := (blk_cell BK407.out 3).trans rfl; have hfz26_0 := blk_frozen BK407.out 0; have hfz26_1 := blk_frozen BK407.out 1; have hfz26_2 := blk_frozen BK407.out 2; have hfz26_3 := blk_frozen BK407.out 3; have hcz27_0 : w24.cell? ⟨gb405, 0, none⟩ = some (.slice A0_0 l0_0.length c0_0) := (blk_cell BK405.out 0).trans rfl; have hcz27_1 : w24.cell? ⟨gb405, 1, none⟩ = some (.slice (some ad406) l0_1.length c0_1) := (blk_cell BK405.out 1).trans rfl; have hfz27_0 := blk_frozen BK405.out 0; have hfz27_1 := blk_frozen BK405.out 1))
                      go_roundg k1
                      case measure => have := HK1.out; omega
                      case rel => exact ⟨(x5_1), (wrap64 (x6_1 + 1)), (by first | rfl | (simp; done) | (simp [*]; done)), (by first | rfl | (simp; done) | (simp [*]; done)), H', ⟨by have := HK1.out; omega⟩, ⟨by (with_reducible repeat (first | refine blk_drewN ?_ _ | refine blk_drew ?_ | refine blk_alloc ?_ _)); refine blk_far ?_ NB405_407.out _; (with_reducible repeat (first | refine blk_drewN ?_ _ | refine blk_drew ?_ | refine blk_alloc ?_ _)); refine blk_far ?_ NB405_407.out _; (with_reducible repeat (first | refine blk_drewN ?_ _ | refine blk_drew ?_ | refine blk_alloc ?_ _)); refine blk_far ?_ NB405_407.out _; (with_reducible repeat (first | refine blk_drewN ?_ _ | refine blk_drew ?_ | refine blk_alloc ?_ _)); refine blk_far ?_ NB405_407.out _; (with_reducible repeat (first | refine blk_drewN ?_ _ | refine blk_drew ?_ | refine blk_alloc ?_ _)); exact BK405.out⟩, ⟨by repeat (first | (with_reducible first | exact HB.out | apply below_alloc | apply pw_below_drewN | apply below_drew1 | refine below_set ?_ GE405.out | refine below_set ?_ GE407.out) | exact HB.out)⟩⟩
                  · rw [if_neg c10] at H
                    have c10b0 : decide (0 ≤ ((rd_T69 l0_1 x6_1).f1)) = false := decide_eq_false c10
                    clear c10
                    have H' := Aside0.mk H
                    clear H
                    have hcz28_0 : wr.cell? ⟨gb405, 0, none⟩ = some (.slice A0_0 l0_0.length c0_0) := (blk_cell BK405.out 0).trans rfl
                    have hcz28_1 : wr.cell? ⟨gb405, 1, none⟩ = some (.slice A0_1 l0_1.length c0_1) := (blk_cell BK405.out 1).trans rfl
                    have hfz28_0 := blk_frozen BK405.out 0
                    have hfz28_1 := blk_frozen BK405.out 1
                    have p406 : 0 ≤ (x6_1 : Int) := of_decide_eq_true (by first | (with_reducible assumption) | assumption)
                    have q406 : x6_1 < (l0_1.length : Int) := of_decide_eq_true (by first | (with_reducible assumption) | assumption)
                    obtain ⟨ad406, e406, hx406_0, hx406_1, hx406_2, hx406_3⟩ := at_T69 HR0_1.out x6_1 p406 q406
                    cases e406
                    replace hx406_0 := (HB.out.cell (World.block_lt_of_cell? w _ hx406_0)).trans hx406_0
                    replace hx406_1 := (HB.out.cell (World.block_lt_of_cell? w _ hx406_1)).trans hx406_1
                    replace hx406_2 := (HB.out.cell (World.block_lt_of_cell? w _ hx406_2)).trans hx406_2
                    replace hx406_3 := (HB.out.cell (World.block_lt_of_cell? w _ hx406_3)).trans hx406_3
                    replace p406 := eq_true p406
                    replace q406 := eq_true q406
                    go_wp2_with (first | ((with_reducible refine gate_dst (N := 7) rfl ?_); (try (refine gate_guard (by rfl) ?_; dsimp only)); refine box_event ?hg (N := 7) ?hd (cs := #[.int .i64 0, .int .i64 0, .int .i64 0, .int .i64 0]) (t := 69) ?hr ?_; (case hd => rfl); (case hg => rfl); (case hr => first | (go_simp; done) | (go_simp; rfl)); intro gb407 hg w29 hbox hb; have n0_ := Aside0.mk (blk_below (g := gb405) (o := .cells #[.slice A0_0 l0_0.length c0_0, .slice (some ad406) l0_1.length c0_1] 30 (0, 0)) (by (with_reducible repeat (first | refine blk_drewN ?_ _ | refine blk_drew ?_ | refine blk_alloc ?_ _)); exact BK405.out) hb); have n1_ := Aside0.mk (below_step (by repeat (first | (with_reducible first | exact HB.out | apply below_alloc | apply pw_below_drewN | apply below_drew1 | refine below_set ?_ GE405.out) | exact HB.out)) hb); have n2_ := Aside0.mk (hbox); have n3_ := Aside0.mk ((by rw [hg]; exact (below_size (by repeat (first | (with_reducible first | exact HB.out | apply below_alloc | apply pw_below_drewN | apply below_drew1 | refine below_set ?_ GE405.out) | exact HB.out))) : w.heap.size ≤ gb407)); have n4_ := Aside0.mk ((by rw [hg]; exact (below_size (by repeat (first | (with_reducible first | exact HB.out | apply below_alloc | apply pw_below_drewN | apply below_drew1 | refine below_set ?_ GE405.out) | exact HB.out))) : w.heap.size ≤ gb407)); have n5_ := Aside0.mk ((by rw [hg]; exact Nat.ne_of_lt (blk_lt (g := gb405) (o := .cells #[.slice A0_0 l0_0.length c0_0, .slice (some ad406) l0_1.length c0_1] 30 (0, 0)) (by (with_reducible repeat (first | refine blk_drewN ?_ _ | refine blk_drew ?_ | refine blk_alloc ?_ _)); exact BK405.out)) : gb405 ≠ gb407)); have n6_ := Aside0.mk ((by rw [hg]; exact Nat.ne_of_gt (blk_lt (g := gb405) (o := .cells #[.slice A0_0 l0_0.length c0_0, .slice (some ad406) l0_1.length c0_1] 30 (0, 0)) (by (with_reducible repeat (first | refine blk_drewN ?_ _ | refine blk_drew ?_ | refine blk_alloc ?_ _)); exact BK405.out)) : gb407 ≠ gb405)); clear BK405; clear HB; have BK405 := n0_; have HB := n1_; have BK407 := n2_; have GW407 := n3_; have GE407 := n4_; have NB405_407 := n5_; have NB407_405 := n6_; clear n0_ n1_ n2_ n3_ n4_ n5_ n6_; clear hb hbox hg; have hnb30 := NB407_405.out; have hnc30 := NB405_407.out; have hcz31_0 : w29.cell? ⟨gb407, 0, none⟩ = some (.int .i64 0) := (blk_cell BK407.out 0).trans rfl; have hcz31_1 : w29.cell? ⟨gb407, 1, none⟩ = some (.int .i64 0) := (blk_cell BK407.out 1).trans rfl; have hcz31_2 : w29.cell? ⟨gb407, 2, none⟩ = some (.int .i64 0) := (blk_cell BK407.out 2).trans rfl; have hcz31_3 : w29.cell? ⟨gb407, 3, none⟩ = some (.int .i64 0) := (blk_cell BK407.out 3).trans rfl; have hfz31_0 := blk_frozen BK407.out 0; have hfz31_1 := blk_frozen BK407.out 1; have hfz31_2 := blk_frozen BK407.out 2; have hfz31_3 := blk_frozen BK407.out 3; have hcz32_0 : w29.cell? ⟨gb405, 0, none⟩ = some (.slice A0_0 l0_0.length c0_0) := (blk_cell BK405.out 0).trans rfl; have hcz32_1 : w29.cell? ⟨gb405, 1, none⟩ = some (.slice (some ad406) l0_1.length c0_1) := (blk_cell BK405.out 1).trans rfl; have hfz32_0 := blk_frozen BK405.out 0; have hfz32_1 := blk_frozen BK405.out 1))
                    go_roundg k1
                    case measure => have := HK1.out; omega
                    case rel => exact ⟨(x5_1), (wrap64 (x6_1 + 1)), (by first | rfl | (simp; done) | (simp [*]; done)), (by first | rfl | (simp; done) | (simp [*]; done)), H', ⟨by have := HK1.out; omega⟩, ⟨by (with_reducible repeat (first | refine blk_drewN ?_ _ | refine blk_drew ?_ | refine blk_alloc ?_ _)); refine blk_far ?_ NB405_407.out _; (with_reducible repeat (first | refine blk_drewN ?_ _ | refine blk_drew ?_ | refine blk_alloc ?_ _)); refine blk_far ?_ NB405_407.out _; (with_reducible repeat (first | refine blk_drewN ?_ _ | refine blk_drew ?_ | refine blk_alloc ?_ _)); refine blk_far ?_ NB405_407.out _; (with_reducible repeat (first | refine blk_drewN ?_ _ | refine blk_drew ?_ | refine blk_alloc ?_ _)); refine blk_far ?_ NB405_407.out _; (with_reducible repeat (first | refine blk_drewN ?_ _ | refine blk_drew ?_ | refine blk_alloc ?_ _)); exact BK405.out⟩, ⟨by repeat (first | (with_reducible first | exact HB.out | apply below_alloc | apply pw_below_drewN | apply below_drew1 | refine below_set ?_ GE405.out | refine below_set ?_ GE407.out) | exact HB.out)⟩⟩
                · rw [if_neg c9] at H
                  have c9b0 : decide (a1 < (l0_0.length : Int)) = false := decide_eq_false c9
                  clear c9
                  have H' := Aside0.mk H
                  clear H
                  have hcz33_0 : wr.cell? ⟨gb405, 0, none⟩ = some (.slice A0_0 l0_0.length c0_0) := (blk_cell BK405.out 0).trans rfl
                  have hcz33_1 : wr.cell? ⟨gb405, 1, none⟩ = some (.slice A0_1 l0_1.length c0_1) := (blk_cell BK405.out 1).trans rfl
                  have hfz33_0 := blk_frozen BK405.out 0
                  have hfz33_1 := blk_frozen BK405.out 1
                  have p406 : 0 ≤ (x6_1 : Int) := of_decide_eq_true (by first | (with_reducible assumption) | assumption)
                  have q406 : x6_1 < (l0_1.length : Int) := of_decide_eq_true (by first | (with_reducible assumption) | assumption)
                  obtain ⟨ad406, e406, hx406_0, hx406_1, hx406_2, hx406_3⟩ := at_T69 HR0_1.out x6_1 p406 q406
                  cases e406
                  replace hx406_0 := (HB.out.cell (World.block_lt_of_cell? w _ hx406_0)).trans hx406_0
                  replace hx406_1 := (HB.out.cell (World.block_lt_of_cell? w _ hx406_1)).trans hx406_1
                  replace hx406_2 := (HB.out.cell (World.block_lt_of_cell? w _ hx406_2)).trans hx406_2
                  replace hx406_3 := (HB.out.cell (World.block_lt_of_cell? w _ hx406_3)).trans hx406_3
                  replace p406 := eq_true p406
                  replace q406 := eq_true q406
                  go_wp2_with (first | ((with_reducible refine gate_dst (N := 7) rfl ?_); (try (refine gate_guard (by rfl) ?_; dsimp only)); refine box_event ?hg (N := 7) ?hd (cs := #[.int .i64 0, .int .i64 0, .int .i64 0, .int .i64 0]) (t := 69) ?hr ?_; (case hd => rfl); (case hg => rfl); (case hr => first | (go_simp; done) | (go_simp; rfl)); intro gb407 hg w34 hbox hb; have n0_ := Aside0.mk (blk_below (g := gb405) (o := .cells #[.slice A0_0 l0_0.length c0_0, .slice (some ad406) l0_1.length c0_1] 30 (0, 0)) (by (with_reducible repeat (first | refine blk_drewN ?_ _ | refine blk_drew ?_ | refine blk_alloc ?_ _)); exact BK405.out) hb); have n1_ := Aside0.mk (below_step (by repeat (first | (with_reducible first | exact HB.out | apply below_alloc | apply pw_below_drewN | apply below_drew1 | refine below_set ?_ GE405.out) | exact HB.out)) hb); have n2_ := Aside0.mk (hbox); have n3_ := Aside0.mk ((by rw [hg]; exact (below_size (by repeat (first | (with_reducible first | exact HB.out | apply below_alloc | apply pw_below_drewN | apply below_drew1 | refine below_set ?_ GE405.out) | exact HB.out))) : w.heap.size ≤ gb407)); have n4_ := Aside0.mk ((by rw [hg]; exact (below_size (by repeat (first | (with_reducible first | exact HB.out | apply below_alloc | apply pw_below_drewN | apply below_drew1 | refine below_set ?_ GE405.out) | exact HB.out))) : w.heap.size ≤ gb407)); have n5_ := Aside0.mk ((by rw [hg]; exact Nat.ne_of_lt (blk_lt (g := gb405) (o := .cells #[.slice A0_0 l0_0.length c0_0, .slice (some ad406) l0_1.length c0_1] 30 (0, 0)) (by (with_reducible repeat (first | refine blk_drewN ?_ _ | refine blk_drew ?_ | refine blk_alloc ?_ _)); exact BK405.out)) : gb405 ≠ gb407)); have n6_ := Aside0.mk ((by rw [hg]; exact Nat.ne_of_gt (blk_lt (g := gb405) (o := .cells #[.slice A0_0 l0_0.length c0_0, .slice (some ad406) l0_1.length c0_1] 30 (0, 0)) (by (with_reducible repeat (first | refine blk_drewN ?_ _ | refine blk_drew ?_ | refine blk_alloc ?_ _)); exact BK405.out)) : gb407 ≠ gb405)); clear BK405; clear HB; have BK405 := n0_; have HB := n1_; have BK407 := n2_; have GW407 := n3_; have GE407 := n4_; have NB405_407 := n5_; have NB407_405 := n6_; clear n0_ n1_ n2_ n3_ n4_ n5_ n6_; clear hb hbox hg; have hnb35 := NB407_405.out; have hnc35 := NB405_407.out; have hcz36_0 : w34.cell? ⟨gb407, 0, none⟩ = some (.int .i64 0) := (blk_cell BK407.out 0).trans rfl; have hcz36_1 : w34.cell? ⟨gb407, 1, none⟩ = some (.int .i64 0) := (blk_cell BK407.out 1).trans rfl; have hcz36_2 : w34.cell? ⟨gb407, 2, none⟩ = some (.int .i64 0) := (blk_cell BK407.out 2).trans rfl; have hcz36_3 : w34.cell? ⟨gb407, 3, none⟩ = some (.int .i64 0) := (blk_cell BK407.out 3).trans rfl; have hfz36_0 := blk_frozen BK407.out 0; have hfz36_1 := blk_frozen BK407.out 1; have hfz36_2 := blk_frozen BK407.out 2; have hfz36_3 := blk_frozen BK407.out 3; have hcz37_0 : w34.cell? ⟨gb405, 0, none⟩ = some (.slice A0_0 l0_0.length c0_0) := (blk_cell BK405.out 0).trans rfl; have hcz37_1 : w34.cell? ⟨gb405, 1, none⟩ = some (.slice (some ad406) l0_1.length c0_1) := (blk_cell BK405.out 1).trans rfl; have hfz37_0 := blk_frozen BK405.out 0; have hfz37_1 := blk_frozen BK405.out 1))
                  go_roundg k1
                  case measure => have := HK1.out; omega
                  case rel => exact ⟨(x5_1), (wrap64 (x6_1 + 1)), (by first | rfl | (simp; done) | (simp [*]; done)), (by first | rfl | (simp; done) | (simp [*]; done)), H', ⟨by have := HK1.out; omega⟩, ⟨by (with_reducible repeat (first | refine blk_drewN ?_ _ | refine blk_drew ?_ | refine blk_alloc ?_ _)); refine blk_far ?_ NB405_407.out _; (with_reducible repeat (first | refine blk_drewN ?_ _ | refine blk_drew ?_ | refine blk_alloc ?_ _)); refine blk_far ?_ NB405_407.out _; (with_reducible repeat (first | refine blk_drewN ?_ _ | refine blk_drew ?_ | refine blk_alloc ?_ _)); refine blk_far ?_ NB405_407.out _; (with_reducible repeat (first | refine blk_drewN ?_ _ | refine blk_drew ?_ | refine blk_alloc ?_ _)); refine blk_far ?_ NB405_407.out _; (with_reducible repeat (first | refine blk_drewN ?_ _ | refine blk_drew ?_ | refine blk_alloc ?_ _)); exact BK405.out⟩, ⟨by repeat (first | (with_reducible first | exact HB.out | apply below_alloc | apply pw_below_drewN | apply below_drew1 | refine below_set ?_ GE405.out | refine below_set ?_ GE407.out) | exact HB.out)⟩⟩
              · rw [if_neg c8] at H
                have c8b0 : decide (0 ≤ a1) = false := decide_eq_false c8
                clear c8
                have H' := Aside0.mk H
                clear H
                have hcz38_0 : wr.cell? ⟨gb405, 0, none⟩ = some (.slice A0_0 l0_0.length c0_0) := (blk_cell BK405.out 0).trans rfl
                have hcz38_1 : wr.cell? ⟨gb405, 1, none⟩ = some (.slice A0_1 l0_1.length c0_1) := (blk_cell BK405.out 1).trans rfl
                have hfz38_0 := blk_frozen BK405.out 0
                have hfz38_1 := blk_frozen BK405.out 1
                have p406 : 0 ≤ (x6_1 : Int) := of_decide_eq_true (by first | (with_reducible assumption) | assumption)
                have q406 : x6_1 < (l0_1.length : Int) := of_decide_eq_true (by first | (with_reducible assumption) | assumption)
                obtain ⟨ad406, e406, hx406_0, hx406_1, hx406_2, hx406_3⟩ := at_T69 HR0_1.out x6_1 p406 q406
                cases e406
                replace hx406_0 := (HB.out.cell (World.block_lt_of_cell? w _ hx406_0)).trans hx406_0
                replace hx406_1 := (HB.out.cell (World.block_lt_of_cell? w _ hx406_1)).trans hx406_1
                replace hx406_2 := (HB.out.cell (World.block_lt_of_cell? w _ hx406_2)).trans hx406_2
                replace hx406_3 := (HB.out.cell (World.block_lt_of_cell? w _ hx406_3)).trans hx406_3
                replace p406 := eq_true p406
                replace q406 := eq_true q406
                go_wp2_with (first | ((with_reducible refine gate_dst (N := 7) rfl ?_); (try (refine gate_guard (by rfl) ?_; dsimp only)); refine box_event ?hg (N := 7) ?hd (cs := #[.int .i64 0, .int .i64 0, .int .i64 0, .int .i64 0]) (t := 69) ?hr ?_; (case hd => rfl); (case hg => rfl); (case hr => first | (go_simp; done) | (go_simp; rfl)); intro gb407 hg w39 hbox hb; have n0_ := Aside0.mk (blk_below (g := gb405) (o := .cells #[.slice A0_0 l0_0.length c0_0, .slice (some ad406) l0_1.length c0_1] 30 (0, 0)) (by (with_reducible repeat (first | refine blk_drewN ?_ _ | refine blk_drew ?_ | refine blk_alloc ?_ _)); exact BK405.out) hb); have n1_ := Aside0.mk (below_step (by repeat (first | (with_reducible first | exact HB.out | apply below_alloc | apply pw_below_drewN | apply below_drew1 | refine below_set ?_ GE405.out) | exact HB.out)) hb); have n2_ := Aside0.mk (hbox); have n3_ := Aside0.mk ((by rw [hg]; exact (below_size (by repeat (first | (with_reducible first | exact HB.out | apply below_alloc | apply pw_below_drewN | apply below_drew1 | refine below_set ?_ GE405.out) | exact HB.out))) : w.heap.size ≤ gb407)); have n4_ := Aside0.mk ((by rw [hg]; exact (below_size (by repeat (first | (with_reducible first | exact HB.out | apply below_alloc | apply pw_below_drewN | apply below_drew1 | refine below_set ?_ GE405.out) | exact HB.out))) : w.heap.size ≤ gb407)); have n5_ := Aside0.mk ((by rw [hg]; exact Nat.ne_of_lt (blk_lt (g := gb405) (o := .cells #[.slice A0_0 l0_0.length c0_0, .slice (some ad406) l0_1.length c0_1] 30 (0, 0)) (by (with_reducible repeat (first | refine blk_drewN ?_ _ | refine blk_drew ?_ | refine blk_alloc ?_ _)); exact BK405.out)) : gb405 ≠ gb407)); have n6_ := Aside0.mk ((by rw [hg]; exact Nat.ne_of_gt (blk_lt (g := gb405) (o := .cells #[.slice A0_0 l0_0.length c0_0, .slice (some ad406) l0_1.length c0_1] 30 (0, 0)) (by (with_reducible repeat (first | refine blk_drewN ?_ _ | refine blk_drew ?_ | refine blk_alloc ?_ _)); exact BK405.out)) : gb407 ≠ gb405)); clear BK405; clear HB; have BK405 := n0_; have HB := n1_; have BK407 := n2_; have GW407 := n3_; have GE407 := n4_; have NB405_407 := n5_; have NB407_405 := n6_; clear n0_ n1_ n2_ n3_ n4_ n5_ n6_; clear hb hbox hg; have hnb40 := NB407_405.out; have hnc40 := NB405_407.out; have hcz41_0 : w39.cell? ⟨gb407, 0, none⟩ = some (.int .i64 0) := (blk_cell BK407.out 0).trans rfl; have hcz41_1 : w39.cell? ⟨gb407, 1, none⟩ = some (.int .i64 0) := (blk_cell BK407.out 1).trans rfl; have hcz41_2 : w39.cell? ⟨gb407, 2, none⟩ = some (.int .i64 0) := (blk_cell BK407.out 2).trans rfl; have hcz41_3 : w39.cell? ⟨gb407, 3, none⟩ = some (.int .i64 0) := (blk_cell BK407.out 3).trans rfl; have hfz41_0 := blk_frozen BK407.out 0; have hfz41_1 := blk_frozen BK407.out 1; have hfz41_2 := blk_frozen BK407.out 2; have hfz41_3 := blk_frozen BK407.out 3))
                go_roundg k1
                case measure => have := HK1.out; omega
                case rel => exact ⟨(x5_1), (wrap64 (x6_1 + 1)), (by first | rfl | (simp; done) | (simp [*]; done)), (by first | rfl | (simp; done) | (simp [*]; done)), H', ⟨by have := HK1.out; omega⟩, ⟨by (with_reducible repeat (first | refine blk_drewN ?_ _ | refine blk_drew ?_ | refine blk_alloc ?_ _)); refine blk_far ?_ NB405_407.out _; (with_reducible repeat (first | refine blk_drewN ?_ _ | refine blk_drew ?_ | refine blk_alloc ?_ _)); refine blk_far ?_ NB405_407.out _; (with_reducible repeat (first | refine blk_drewN ?_ _ | refine blk_drew ?_ | refine blk_alloc ?_ _)); refine blk_far ?_ NB405_407.out _; (with_reducible repeat (first | refine blk_drewN ?_ _ | refine blk_drew ?_ | refine blk_alloc ?_ _)); refine blk_far ?_ NB405_407.out _; (with_reducible repeat (first | refine blk_drewN ?_ _ | refine blk_drew ?_ | refine blk_alloc ?_ _)); exact BK405.out⟩, ⟨by repeat (first | (with_reducible first | exact HB.out | apply below_alloc | apply pw_below_drewN | apply below_drew1 | refine below_set ?_ GE405.out | refine below_set ?_ GE407.out) | exact HB.out)⟩⟩
            · rw [if_neg c7] at H
              have c7b0 : (((rd_T69 l0_1 x6_1).f2) == a1) = false := beq_eq_false_iff_ne.mpr c7
              have c7b1 : (((rd_T69 l0_1 x6_1).f2) != a1) = true := bne_iff_ne.mpr c7
              have H' := Aside0.mk H
              clear H
              have hcz42_0 : wr.cell? ⟨gb405, 0, none⟩ = some (.slice A0_0 l0_0.length c0_0) := (blk_cell BK405.out 0).trans rfl
              have hcz42_1 : wr.cell? ⟨gb405, 1, none⟩ = some (.slice A0_1 l0_1.length c0_1) := (blk_cell BK405.out 1).trans rfl
              have hfz42_0 := blk_frozen BK405.out 0
              have hfz42_1 := blk_frozen BK405.out 1
              have p406 : 0 ≤ (x6_1 : Int) := of_decide_eq_true (by first | (with_reducible assumption) | assumption)
              have q406 : x6_1 < (l0_1.length : Int) := of_decide_eq_true (by first | (with_reducible assumption) | assumption)
              obtain ⟨ad406, e406, hx406_0, hx406_1, hx406_2, hx406_3⟩ := at_T69 HR0_1.out x6_1 p406 q406
              cases e406
              replace hx406_0 := (HB.out.cell (World.block_lt_of_cell? w _ hx406_0)).trans hx406_0
              replace hx406_1 := (HB.out.cell (World.block_lt_of_cell? w _ hx406_1)).trans hx406_1
              replace hx406_2 := (HB.out.cell (World.block_lt_of_cell? w _ hx406_2)).trans hx406_2
              replace hx406_3 := (HB.out.cell (World.block_lt_of_cell? w _ hx406_3)).trans hx406_3
              replace p406 := eq_true p406
              replace q406 := eq_true q406
              go_wp2_with (first | ((with_reducible refine gate_dst (N := 7) rfl ?_); (try (refine gate_guard (by rfl) ?_; dsimp only)); refine box_event ?hg (N := 7) ?hd (cs := #[.int .i64 0, .int .i64 0, .int .i64 0, .int .i64 0]) (t := 69) ?hr ?_; (case hd => rfl); (case hg => rfl); (case hr => first | (go_simp; done) | (go_simp; rfl)); intro gb407 hg w43 hbox hb; have n0_ := Aside0.mk (blk_below (g := gb405) (o := .cells #[.slice A0_0 l0_0.length c0_0, .slice (some ad406) l0_1.length c0_1] 30 (0, 0)) (by (with_reducible repeat (first | refine blk_drewN ?_ _ | refine blk_drew ?_ | refine blk_alloc ?_ _)); exact BK405.out) hb); have n1_ := Aside0.mk (below_step (by repeat (first | (with_reducible first | exact HB.out | apply below_alloc | apply pw_below_drewN | apply below_drew1 | refine below_set ?_ GE405.out) | exact HB.out)) hb); have n2_ := Aside0.mk (hbox); have n3_ := Aside0.mk ((by rw [hg]; exact (below_size (by repeat (first | (with_reducible first | exact HB.out | apply below_alloc | apply pw_below_drewN | apply below_drew1 | refine below_set ?_ GE405.out) | exact HB.out))) : w.heap.size ≤ gb407)); have n4_ := Aside0.mk ((by rw [hg]; exact (below_size (by repeat (first | (with_reducible first | exact HB.out | apply below_alloc | apply pw_below_drewN | apply below_drew1 | refine below_set ?_ GE405.out) | exact HB.out))) : w.heap.size ≤ gb407)); have n5_ := Aside0.mk ((by rw [hg]; exact Nat.ne_of_lt (blk_lt (g := gb405) (o := .cells #[.slice A0_0 l0_0.length c0_0, .slice (some ad406) l0_1.length c0_1] 30 (0, 0)) (by (with_reducible repeat (first | refine blk_drewN ?_ _ | refine blk_drew ?_ | refine blk_alloc ?_ _)); exact BK405.out)) : gb405 ≠ gb407)); have n6_ := Aside0.mk ((by rw [hg]; exact Nat.ne_of_gt (blk_lt (g := gb405) (o := .cells #[.slice A0_0 l0_0.length c0_0, .slice (some ad406) l0_1.length c0_1] 30 (0, 0)) (by (with_reducible repeat (first | refine blk_drewN ?_ _ | refine blk_drew ?_ | refine blk_alloc ?_ _)); exact BK405.out)) : gb407 ≠ gb405)); clear BK405; clear HB; have BK405 := n0_; have HB := n1_; have BK407 := n2_; have GW407 := n3_; have GE407 := n4_; have NB405_407 := n5_; have NB407_405 := n6_; clear n0_ n1_ n2_ n3_ n4_ n5_ n6_; clear hb hbox hg; have hnb44 := NB407_405.out; have hnc44 := NB405_407.out; have hcz45_0 : w43.cell? ⟨gb407, 0, none⟩ = some (.int .i64 0) := (blk_cell BK407.out 0).trans rfl; have hcz45_1 : w43.cell? ⟨gb407, 1, none⟩ = some (.int .i64 0) := (blk_cell BK407.out 1).trans rfl; have hcz45_2 : w43.cell? ⟨gb407, 2, none⟩ = some (.int .i64 0) := (blk_cell BK407.out 2).trans rfl; have hcz45_3 : w43.cell? ⟨gb407, 3, none⟩ = some (.int .i64 0) := (blk_cell BK407.out 3).trans rfl; have hfz45_0 := blk_frozen BK407.out 0; have hfz45_1 := blk_frozen BK407.out 1; have hfz45_2 := blk_frozen BK407.out 2; have hfz45_3 := blk_frozen BK407.out 3))
              go_roundg k1
              case measure => have := HK1.out; omega
              case rel => exact ⟨(x5_1), (wrap64 (x6_1 + 1)), (by first | rfl | (simp; done) | (simp [*]; done)), (by first | rfl | (simp; done) | (simp [*]; done)), H', ⟨by have := HK1.out; omega⟩, ⟨by (with_reducible repeat (first | refine blk_drewN ?_ _ | refine blk_drew ?_ | refine blk_alloc ?_ _)); refine blk_far ?_ NB405_407.out _; (with_reducible repeat (first | refine blk_drewN ?_ _ | refine blk_drew ?_ | refine blk_alloc ?_ _)); refine blk_far ?_ NB405_407.out _; (with_reducible repeat (first | refine blk_drewN ?_ _ | refine blk_drew ?_ | refine blk_alloc ?_ _)); refine blk_far ?_ NB405_407.out _; (with_reducible repeat (first | refine blk_drewN ?_ _ | refine blk_drew ?_ | refine blk_alloc ?_ _)); refine blk_far ?_ NB405_407.out _; (with_reducible repeat (first | refine blk_drewN ?_ _ | refine blk_drew ?_ | refine blk_alloc ?_ _)); exact BK405.out⟩, ⟨by repeat (first | (with_reducible first | exact HB.out | apply below_alloc | apply pw_below_drewN | apply below_drew1 | refine below_set ?_ GE405.out | refine below_set ?_ GE407.out) | exact HB.out)⟩⟩
          · rw [if_neg c6] at H
            have c6b0 : (((rd_T69 l0_1 x6_1).f0) == 1) = false := beq_eq_false_iff_ne.mpr c6
            have c6b1 : (((rd_T69 l0_1 x6_1).f0) != 1) = true := bne_iff_ne.mpr c6
            have H' := Aside0.mk H
            clear H
            have hcz46_0 : wr.cell? ⟨gb405, 0, none⟩ = some (.slice A0_0 l0_0.length c0_0) := (blk_cell BK405.out 0).trans rfl
            have hcz46_1 : wr.cell? ⟨gb405, 1, none⟩ = some (.slice A0_1 l0_1.length c0_1) := (blk_cell BK405.out 1).trans rfl
            have hfz46_0 := blk_frozen BK405.out 0
            have hfz46_1 := blk_frozen BK405.out 1
            have p406 : 0 ≤ (x6_1 : Int) := of_decide_eq_true (by first | (with_reducible assumption) | assumption)
            have q406 : x6_1 < (l0_1.length : Int) := of_decide_eq_true (by first | (with_reducible assumption) | assumption)
            obtain ⟨ad406, e406, hx406_0, hx406_1, hx406_2, hx406_3⟩ := at_T69 HR0_1.out x6_1 p406 q406
            cases e406
            replace hx406_0 := (HB.out.cell (World.block_lt_of_cell? w _ hx406_0)).trans hx406_0
            replace hx406_1 := (HB.out.cell (World.block_lt_of_cell? w _ hx406_1)).trans hx406_1
            replace hx406_2 := (HB.out.cell (World.block_lt_of_cell? w _ hx406_2)).trans hx406_2
            replace hx406_3 := (HB.out.cell (World.block_lt_of_cell? w _ hx406_3)).trans hx406_3
            replace p406 := eq_true p406
            replace q406 := eq_true q406
            go_wp2_with (first | ((with_reducible refine gate_dst (N := 7) rfl ?_); (try (refine gate_guard (by rfl) ?_; dsimp only)); refine box_event ?hg (N := 7) ?hd (cs := #[.int .i64 0, .int .i64 0, .int .i64 0, .int .i64 0]) (t := 69) ?hr ?_; (case hd => rfl); (case hg => rfl); (case hr => first | (go_simp; done) | (go_simp; rfl)); intro gb407 hg w47 hbox hb; have n0_ := Aside0.mk (blk_below (g := gb405) (o := .cells #[.slice A0_0 l0_0.length c0_0, .slice (some ad406) l0_1.length c0_1] 30 (0, 0)) (by (with_reducible repeat (first | refine blk_drewN ?_ _ | refine blk_drew ?_ | refine blk_alloc ?_ _)); exact BK405.out) hb); have n1_ := Aside0.mk (below_step (by repeat (first | (with_reducible first | exact HB.out | apply below_alloc | apply pw_below_drewN | apply below_drew1 | refine below_set ?_ GE405.out) | exact HB.out)) hb); have n2_ := Aside0.mk (hbox); have n3_ := Aside0.mk ((by rw [hg]; exact (below_size (by repeat (first | (with_reducible first | exact HB.out | apply below_alloc | apply pw_below_drewN | apply below_drew1 | refine below_set ?_ GE405.out) | exact HB.out))) : w.heap.size ≤ gb407)); have n4_ := Aside0.mk ((by rw [hg]; exact (below_size (by repeat (first | (with_reducible first | exact HB.out | apply below_alloc | apply pw_below_drewN | apply below_drew1 | refine below_set ?_ GE405.out) | exact HB.out))) : w.heap.size ≤ gb407)); have n5_ := Aside0.mk ((by rw [hg]; exact Nat.ne_of_lt (blk_lt (g := gb405) (o := .cells #[.slice A0_0 l0_0.length c0_0, .slice (some ad406) l0_1.length c0_1] 30 (0, 0)) (by (with_reducible repeat (first | refine blk_drewN ?_ _ | refine blk_drew ?_ | refine blk_alloc ?_ _)); exact BK405.out)) : gb405 ≠ gb407)); have n6_ := Aside0.mk ((by rw [hg]; exact Nat.ne_of_gt (blk_lt (g := gb405) (o := .cells #[.slice A0_0 l0_0.length c0_0, .slice (some ad406) l0_1.length c0_1] 30 (0, 0)) (by (with_reducible repeat (first | refine blk_drewN ?_ _ | refine blk_drew ?_ | refine blk_alloc ?_ _)); exact BK405.out)) : gb407 ≠ gb405)); clear BK405; clear HB; have BK405 := n0_; have HB := n1_; have BK407 := n2_; have GW407 := n3_; have GE407 := n4_; have NB405_407 := n5_; have NB407_405 := n6_; clear n0_ n1_ n2_ n3_ n4_ n5_ n6_; clear hb hbox hg; have hnb48 := NB407_405.out; have hnc48 := NB405_407.out; have hcz49_0 : w47.cell? ⟨gb407, 0, none⟩ = some (.int .i64 0) := (blk_cell BK407.out 0).trans rfl; have hcz49_1 : w47.cell? ⟨gb407, 1, none⟩ = some (.int .i64 0) := (blk_cell BK407.out 1).trans rfl; have hcz49_2 : w47.cell? ⟨gb407, 2, none⟩ = some (.int .i64 0) := (blk_cell BK407.out 2).trans rfl; have hcz49_3 : w47.cell? ⟨gb407, 3, none⟩ = some (.int .i64 0) := (blk_cell BK407.out 3).trans rfl; have hfz49_0 := blk_frozen BK407.out 0; have hfz49_1 := blk_frozen BK407.out 1; have hfz49_2 := blk_frozen BK407.out 2; have hfz49_3 := blk_frozen BK407.out 3))
            go_roundg k1
            case measure => have := HK1.out; omega
            case rel => exact ⟨(x5_1), (wrap64 (x6_1 + 1)), (by first | rfl | (simp; done) | (simp [*]; done)), (by first | rfl | (simp; done) | (simp [*]; done)), H', ⟨by have := HK1.out; omega⟩, ⟨by (with_reducible repeat (first | refine blk_drewN ?_ _ | refine blk_drew ?_ | refine blk_alloc ?_ _)); refine blk_far ?_ NB405_407.out _; (with_reducible repeat (first | refine blk_drewN ?_ _ | refine blk_drew ?_ | refine blk_alloc ?_ _)); refine blk_far ?_ NB405_407.out _; (with_reducible repeat (first | refine blk_drewN ?_ _ | refine blk_drew ?_ | refine blk_alloc ?_ _)); refine blk_far ?_ NB405_407.out _; (with_reducible repeat (first | refine blk_drewN ?_ _ | refine blk_drew ?_ | refine blk_alloc ?_ _)); refine blk_far ?_ NB405_407.out _; (with_reducible repeat (first | refine blk_drewN ?_ _ | refine blk_drew ?_ | refine blk_alloc ?_ _)); exact BK405.out⟩, ⟨by repeat (first | (with_reducible first | exact HB.out | apply below_alloc | apply pw_below_drewN | apply below_drew1 | refine below_set ?_ GE405.out | refine below_set ?_ GE407.out) | exact HB.out)⟩⟩
        · rw [if_neg c5] at H
          exact absurd H (by simp)
      · rw [if_neg c4] at H
        have c4b0 : decide (x6_1 < (l0_1.length : Int)) = false := decide_eq_false c4
        clear c4
        obtain rfl := Option.some.inj H
        have hcz50_0 : wr.cell? ⟨gb405, 0, none⟩ = some (.slice A0_0 l0_0.length c0_0) := (blk_cell BK405.out 0).trans rfl
        have hcz50_1 : wr.cell? ⟨gb405, 1, none⟩ = some (.slice A0_1 l0_1.length c0_1) := (blk_cell BK405.out 1).trans rfl
        have hfz50_0 := blk_frozen BK405.out 0
        have hfz50_1 := blk_frozen BK405.out 1
        go_wp2
        go_ret
        exact ⟨by first | rfl | (simp [errW_none, errW_some] <;> rfl) | (simp [*, errW_none, errW_some] <;> rfl), by repeat (first | (with_reducible first | exact HB.out | apply below_alloc | apply pw_below_drewN | apply below_drew1 | refine below_set ?_ GE405.out) | exact HB.out)⟩

-- NOT PRINTED: function 3 (replevinlaw07_NeedsTells)

-- NOT PRINTED: function 4 (replevinlaw07_NeedsHold)

-- NOT PRINTED: function 5 (replevinlaw07_NeedsFew)

/-! ### slices_Index_int_int: function 56 -/
def slices_Index_int_int.l0 : Nat → List Int → Int → Int → Int → Option (Int)
  | 0, _, _, _, _ => none
  | k + 1, x0, x1, x7, x8 => if x8 < x7 then (if 0 ≤ x8 then (if x8 < (x0.length : Int) then (if x1 = (rd x0 x8) then (some x8) else (slices_Index_int_int.l0 k x0 x1 x7 (wrap64 (x8 + 1)))) else (none)) else (none)) else (some (-1))
def slices_Index_int_int.f (k : Nat) (l0 : List Int) (a1 : Int) : Option (Int) := slices_Index_int_int.l0 k l0 a1 (l0.length : Int) 0
theorem slices_Index_int_int.mono_l : ∀ k, (∀ y0 y1 y2 y3, LeO (slices_Index_int_int.l0 k y0 y1 y2 y3) (slices_Index_int_int.l0 (k + 1) y0 y1 y2 y3))
  | 0 => fun _ _ _ _ r h => by simp [slices_Index_int_int.l0] at h
  | k + 1 => by
    have ih0 := slices_Index_int_int.mono_l k
    · intro y0 y1 y2 y3
      unfold slices_Index_int_int.l0
      repeat' first
      | (with_reducible exact ih0 _ _ _ _)
      | (with_reducible exact LeO.refl _)
      | (with_reducible exact LeO.none _)
      | (with_reducible refine LeO.ite ?_ ?_)
      | (with_reducible refine LeO.bind ?_ (fun _ => ?_))
      | exact ih0 _ _ _ _
      | exact LeO.none _
      | refine LeO.ite ?_ ?_
      | refine LeO.bind ?_ (fun _ => ?_)
theorem slices_Index_int_int.mono : ∀ a0 a1 k, LeO (slices_Index_int_int.f k a0 a1) (slices_Index_int_int.f (k + 1) a0 a1) := by
  intro a0 a1 k
  have ih0 := slices_Index_int_int.mono_l k
  unfold slices_Index_int_int.f
  repeat' first
      | (with_reducible exact ih0 _ _ _ _)
      | (with_reducible exact LeO.refl _)
      | (with_reducible exact LeO.none _)
      | (with_reducible refine LeO.ite ?_ ?_)
      | (with_reducible refine LeO.bind ?_ (fun _ => ?_))
      | exact ih0 _ _ _ _
      | exact LeO.none _
      | refine LeO.ite ?_ ?_
      | refine LeO.bind ?_ (fun _ => ?_)
set_option maxHeartbeats 8000000 in
set_option maxRecDepth 100000 in
theorem slices_Index_int_int.calls (k : Nat) (A0 : Option Addr) (c0 : Nat) (l0 : List Int) (a1 : Int) (r : Int) (w : World) (hr0 : Kd.C (Kd.int .i64) w A0 l0.length l0) (hc0 : l0.length ≤ c0) (h : slices_Index_int_int.f k l0 a1 = some r) :
    Calls Try.prog 56 #[.slice A0 l0.length c0, .int .i64 a1] w fun e w' => e = .returned (.int .i64 r) ∧ Drawn0 w w' := by
  have HR0 := Aside0.mk hr0
  have HC0 := Aside0.mk hc0
  clear hr0 hc0
  have H : (slices_Index_int_int.l0 k l0 a1 (l0.length : Int) 0) = some r := h
  clear h
  have H' := Aside0.mk H
  clear H
  go_enter Try.func56, Try.ntmps56
  go_wp2
  go_loopg [8] k (fun kq v8 w' => ∃ (x8_1 : Int), v8 = .int .i64 x8_1 ∧ Aside0 (slices_Index_int_int.l0 kq l0 a1 (l0.length : Int) x8_1 = some r) ∧ Aside0 (kq ≤ k) ∧ Drawn0 w w')
  case atStart => exact ⟨(0), (by first | rfl | (simp; done) | (simp [*]; done)), H', ⟨Nat.le_refl _⟩, by repeat (first | exact Drawn0.refl _ | apply Drawn0.step)⟩
  case round =>
    clear H'
    try clear p2
    obtain ⟨x8_1, rfl, HA, HK1, ⟨m1, rfl⟩⟩ := hrel
    cases gk with
    | zero => exact absurd HA.out (by simp [slices_Index_int_int.l0])
    | succ k1 =>
      have H := HA.out
      clear HA
      simp only [slices_Index_int_int.l0] at H
      by_cases c3 : x8_1 < (l0.length : Int)
      · rw [if_pos c3] at H
        have c3b0 : decide (x8_1 < (l0.length : Int)) = true := decide_eq_true c3
        clear c3
        by_cases c4 : 0 ≤ x8_1
        · rw [if_pos c4] at H
          have c4b0 : decide (0 ≤ x8_1) = true := decide_eq_true c4
          clear c4
          by_cases c5 : x8_1 < (l0.length : Int)
          · rw [if_pos c5] at H
            have c5b0 : decide (x8_1 < (l0.length : Int)) = true := decide_eq_true c5
            clear c5
            by_cases c6 : a1 = (rd l0 x8_1)
            · rw [if_pos c6] at H
              have c6b0 : (a1 == (rd l0 x8_1)) = true := beq_iff_eq.mpr c6
              have c6b1 : (a1 != (rd l0 x8_1)) = false := bne_eq_false_iff_eq.mpr c6
              clear c6
              obtain rfl := Option.some.inj H
              have p428 : 0 ≤ (x8_1 : Int) := of_decide_eq_true (by first | (with_reducible assumption) | assumption)
              have q428 : x8_1 < (l0.length : Int) := of_decide_eq_true (by first | (with_reducible assumption) | assumption)
              obtain ⟨ad428, e428, hx428_0⟩ := Kd.at_int HR0.out x8_1 p428 q428
              cases e428
              replace p428 := eq_true p428
              replace q428 := eq_true q428
              go_wp2
              go_ret
              exact ⟨by first | rfl | (simp; done) | (simp [*]; done), by repeat (first | exact Drawn0.refl _ | apply Drawn0.step)⟩
            · rw [if_neg c6] at H
              have c6b0 : (a1 == (rd l0 x8_1)) = false := beq_eq_false_iff_ne.mpr c6
              have c6b1 : (a1 != (rd l0 x8_1)) = true := bne_iff_ne.mpr c6
              have H' := Aside0.mk H
              clear H
              have p428 : 0 ≤ (x8_1 : Int) := of_decide_eq_true (by first | (with_reducible assumption) | assumption)
              have q428 : x8_1 < (l0.length : Int) := of_decide_eq_true (by first | (with_reducible assumption) | assumption)
              obtain ⟨ad428, e428, hx428_0⟩ := Kd.at_int HR0.out x8_1 p428 q428
              cases e428
              replace p428 := eq_true p428
              replace q428 := eq_true q428
              go_wp2
              go_roundg k1
              case measure => have := HK1.out; omega
              case rel => exact ⟨(wrap64 (x8_1 + 1)), (by first | rfl | (simp; done) | (simp [*]; done)), H', ⟨by have := HK1.out; omega⟩, by repeat (first | exact Drawn0.refl _ | apply Drawn0.step)⟩
          · rw [if_neg c5] at H
            exact absurd H (by simp)
        · rw [if_neg c4] at H
          exact absurd H (by simp)
      · rw [if_neg c3] at H
        have c3b0 : decide (x8_1 < (l0.length : Int)) = false := decide_eq_false c3
        clear c3
        obtain rfl := Option.some.inj H
        go_wp2
        go_ret
        exact ⟨by first | rfl | (simp; done) | (simp [*]; done), by repeat (first | exact Drawn0.refl _ | apply Drawn0.step)⟩

/-! ### slices_Contains_int_int: function 66 -/
def slices_Contains_int_int.f (k : Nat) (l0 : List Int) (a1 : Int) : Option (Bool) := (slices_Index_int_int.f k l0 a1).bind fun t429 => (some (decide (t429 ≥ 0)))
theorem slices_Contains_int_int.mono : ∀ a0 a1 k, LeO (slices_Contains_int_int.f k a0 a1) (slices_Contains_int_int.f (k + 1) a0 a1) := by
  intro a0 a1 k
  unfold slices_Contains_int_int.f
  repeat' first
      | (with_reducible exact slices_Index_int_int.mono _ _ _)
      | (with_reducible exact LeO.refl _)
      | (with_reducible exact LeO.none _)
      | (with_reducible refine LeO.ite ?_ ?_)
      | (with_reducible refine LeO.bind ?_ (fun _ => ?_))
      | exact slices_Index_int_int.mono _ _ _
      | exact LeO.none _
      | refine LeO.ite ?_ ?_
      | refine LeO.bind ?_ (fun _ => ?_)
set_option maxHeartbeats 8000000 in
set_option maxRecDepth 100000 in
theorem slices_Contains_int_int.calls (k : Nat) (A0 : Option Addr) (c0 : Nat) (l0 : List Int) (a1 : Int) (r : Bool) (w : World) (hr0 : Kd.C (Kd.int .i64) w A0 l0.length l0) (hc0 : l0.length ≤ c0) (h : slices_Contains_int_int.f k l0 a1 = some r) :
    Calls Try.prog 66 #[.slice A0 l0.length c0, .int .i64 a1] w fun e w' => e = .returned (.bool r) ∧ Drawn0 w w' := by
  have HR0 := Aside0.mk hr0
  have HC0 := Aside0.mk hc0
  clear hr0 hc0
  have H : ((slices_Index_int_int.f k l0 a1).bind fun t429 => (some (decide (t429 ≥ 0)))) = some r := h
  clear h
  replace H := Option.bind_eq_some_iff.mp H
  obtain ⟨t429, A30, H⟩ := H
  replace H : (some (decide (t429 ≥ 0))) = some r := H
  have A3 := Aside0.mk A30
  clear A30
  obtain rfl := Option.some.inj H
  go_enter Try.func66, Try.ntmps66
  go_wp2_with (first | ((with_reducible refine gate_callee (f := 56) rfl ?_); refine goesL_ (some 7) rfl rfl Try.func56 (by kernel_rfl) rfl #[.slice A0 l0.length c0, .int .i64 a1] rfl (by (try simp only [List.map_toArray, List.map_cons, List.map_nil]); first | done | rfl | (simp only [List.length_drop, List.length_take]; rfl)) ?_; (with_reducible refine (slices_Index_int_int.calls k _ _ l0 a1 t429 _ ?side1 ?side2 A3.out).mono ?_); (case side1 => repeat (first | exact HR0.out | (with_reducible refine Kd.C_alloc ?_ _) | (with_reducible refine Kd.C_drewN ?_ _) | (with_reducible refine Kd.C_drew ?_))); (case side2 => exact HC0.out); rintro e w' ⟨rfl, ⟨nd, rfl⟩⟩; refine ⟨_, rfl, ?_⟩))
  go_ret
  exact ⟨by first | rfl | (simp; done) | (simp [*]; done), by repeat (first | exact Drawn0.refl _ | apply Drawn0.step)⟩

end Go.Proofs.Ytofgaeiihclokaa.P
