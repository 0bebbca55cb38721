/- Functions of the program and of the law as Lean functions, with the proof that the calls answer so; written by a program. No conditions beyond those typed. -/
import Derived.Test.YtofgaeiihclokaaP0
namespace Go.Proofs.Ytofgaeiihclokaa.P
open Go.RowKit Go.Proofs.YtofgaeiihclokaaW.PrintWords Go.Proofs.YtofgaeiihclokaaW.PrintLast Go.Proofs.YtofgaeiihclokaaW.PrintMore
attribute [local go_sem] max2_int min2_int max_two min_two max_three min_three max_four min_four   -- for this text's walks alone
set_option linter.unusedVariables false
set_option linter.unusedSimpArgs false

/-! ### replevinref06_Table: function 52 -/
mutual
def replevinref06_Table.l0 : Nat → List (List Int) → List (List Bool) → Int → Option ((List (List Bool)))
  | 0, _, _, _ => none
  | k + 1, x0, x3, x4 => if x4 < (x0.length : Int) then (if 0 ≤ (x0.length : Int) then (if ((x0.length : Int) : Int).toNat ≤ 281474976710656 then (if x3.length < 5864062014805 then (replevinref06_Table.l1 k x0 (x3 ++ [(List.replicate ((x0.length : Int) : Int).toNat false)]) x4 0) else (none)) else (none)) else (none)) else (replevinref06_Table.l2 k x0 x3 0)
def replevinref06_Table.l1 : Nat → List (List Int) → List (List Bool) → Int → Int → Option ((List (List Bool)))
  | 0, _, _, _, _ => none
  | k + 1, x0, x3, x4, x5 => if 0 ≤ x4 then (if x4 < (x0.length : Int) then (if x5 < ((rd_L8 x0 x4).length : Int) then (if 0 ≤ x5 then (if (rd (rd_L8 x0 x4) x5) ≥ 0 then (if (rd (rd_L8 x0 x4) x5) < (x0.length : Int) then (if x4 < (x3.length : Int) then (if 0 ≤ (rd (rd_L8 x0 x4) x5) then (if (rd (rd_L8 x0 x4) x5) < ((rd_L10 x3 x4).length : Int) then (replevinref06_Table.l1 k x0 (x3.set (x4 : Int).toNat ((rd_L10 x3 x4).set ((rd (rd_L8 x0 x4) x5) : Int).toNat true)) x4 (wrap64 (x5 + 1))) else (none)) else (none)) else (none)) else (replevinref06_Table.l1 k x0 x3 x4 (wrap64 (x5 + 1)))) else (replevinref06_Table.l1 k x0 x3 x4 (wrap64 (x5 + 1)))) else (none)) else (replevinref06_Table.l0 k x0 x3 (wrap64 (x4 + 1)))) else (none)) else (none)
def replevinref06_Table.l2 : Nat → List (List Int) → List (List Bool) → Int → Option ((List (List Bool)))
  | 0, _, _, _ => none
  | k + 1, x0, x3, x7 => if x7 < (x0.length : Int) then (replevinref06_Table.l3 k x0 x3 x7 0) else (some x3)
def replevinref06_Table.l3 : Nat → List (List Int) → List (List Bool) → Int → Int → Option ((List (List Bool)))
  | 0, _, _, _, _ => none
  | k + 1, x0, x3, x7, x8 => if x8 < (x0.length : Int) then (replevinref06_Table.l4 k x0 x3 x7 x8 0) else (replevinref06_Table.l2 k x0 x3 (wrap64 (x7 + 1)))
def replevinref06_Table.l4 : Nat → List (List Int) → List (List Bool) → Int → Int → Int → Option ((List (List Bool)))
  | 0, _, _, _, _, _ => none
  | k + 1, x0, x3, x7, x8, x9 => if x9 < (x0.length : Int) then (if 0 ≤ x8 then (if x8 < (x3.length : Int) then (if 0 ≤ x7 then (if x7 < ((rd_L10 x3 x8).length : Int) then (if rdOf false (rd_L10 x3 x8) x7 = true then (if 0 ≤ x9 then (if x9 < ((rd_L10 x3 x8).length : Int) then (if rdOf false (rd_L10 x3 x8) x9 = true then (replevinref06_Table.l4 k x0 (x3.set (x8 : Int).toNat ((rd_L10 x3 x8).set (x9 : Int).toNat true)) x7 x8 (wrap64 (x9 + 1))) else (if x7 < (x3.length : Int) then (if x9 < ((rd_L10 x3 x7).length : Int) then (replevinref06_Table.l4 k x0 (x3.set (x8 : Int).toNat ((rd_L10 x3 x8).set (x9 : Int).toNat (rdOf false (rd_L10 x3 x7) x9))) x7 x8 (wrap64 (x9 + 1))) else (none)) else (none))) else (none)) else (none)) else (replevinref06_Table.l3 k x0 x3 x7 (wrap64 (x8 + 1)))) else (none)) else (none)) else (none)) else (none)) else (replevinref06_Table.l3 k x0 x3 x7 (wrap64 (x8 + 1)))
end
def replevinref06_Table.f (k : Nat) (l0 : List (List Int)) : Option ((List (List Bool))) := replevinref06_Table.l0 k l0 (([] : List (List Bool))) 0
theorem replevinref06_Table.mono_l : ∀ k, (∀ y0 y1 y2, LeO (replevinref06_Table.l0 k y0 y1 y2) (replevinref06_Table.l0 (k + 1) y0 y1 y2)) ∧ (∀ y0 y1 y2 y3, LeO (replevinref06_Table.l1 k y0 y1 y2 y3) (replevinref06_Table.l1 (k + 1) y0 y1 y2 y3)) ∧ (∀ y0 y1 y2, LeO (replevinref06_Table.l2 k y0 y1 y2) (replevinref06_Table.l2 (k + 1) y0 y1 y2)) ∧ (∀ y0 y1 y2 y3, LeO (replevinref06_Table.l3 k y0 y1 y2 y3) (replevinref06_Table.l3 (k + 1) y0 y1 y2 y3)) ∧ (∀ y0 y1 y2 y3 y4, LeO (replevinref06_Table.l4 k y0 y1 y2 y3 y4) (replevinref06_Table.l4 (k + 1) y0 y1 y2 y3 y4))
  | 0 => ⟨fun _ _ _ r h => by simp [replevinref06_Table.l0] at h, fun _ _ _ _ r h => by simp [replevinref06_Table.l1] at h, fun _ _ _ r h => by simp [replevinref06_Table.l2] at h, fun _ _ _ _ r h => by simp [replevinref06_Table.l3] at h, fun _ _ _ _ _ r h => by simp [replevinref06_Table.l4] at h⟩
  | k + 1 => by
    obtain ⟨ih0, ih1, ih2, ih3, ih4⟩ := replevinref06_Table.mono_l k
    refine ⟨?_, ?_, ?_, ?_, ?_⟩
    · intro y0 y1 y2
      unfold replevinref06_Table.l0
      repeat' first
      | (with_reducible exact ih0 _ _ _)
      | (with_reducible exact ih1 _ _ _ _)
      | (with_reducible exact ih2 _ _ _)
      | (with_reducible exact ih3 _ _ _ _)
      | (with_reducible exact ih4 _ _ _ _ _)
      | (with_reducible exact LeO.refl _)
      | (with_reducible exact LeO.none _)
      | (with_reducible refine LeO.ite ?_ ?_)
      | (with_reducible refine LeO.bind ?_ (fun _ => ?_))
      | exact ih0 _ _ _
      | exact ih1 _ _ _ _
      | exact ih2 _ _ _
      | exact ih3 _ _ _ _
      | exact ih4 _ _ _ _ _
      | exact LeO.none _
      | refine LeO.ite ?_ ?_
      | refine LeO.bind ?_ (fun _ => ?_)
    · intro y0 y1 y2 y3
      unfold replevinref06_Table.l1
      repeat' first
      | (with_reducible exact ih0 _ _ _)
      | (with_reducible exact ih1 _ _ _ _)
      | (with_reducible exact ih2 _ _ _)
      | (with_reducible exact ih3 _ _ _ _)
      | (with_reducible exact ih4 _ _ _ _ _)
      | (with_reducible exact LeO.refl _)
      | (with_reducible exact LeO.none _)
      | (with_reducible refine LeO.ite ?_ ?_)
      | (with_reducible refine LeO.bind ?_ (fun _ => ?_))
      | exact ih0 _ _ _
      | exact ih1 _ _ _ _
      | exact ih2 _ _ _
      | exact ih3 _ _ _ _
      | exact ih4 _ _ _ _ _
      | exact LeO.none _
      | refine LeO.ite ?_ ?_
      | refine LeO.bind ?_ (fun _ => ?_)
    · intro y0 y1 y2
      unfold replevinref06_Table.l2
      repeat' first
      | (with_reducible exact ih0 _ _ _)
      | (with_reducible exact ih1 _ _ _ _)
      | (with_reducible exact ih2 _ _ _)
      | (with_reducible exact ih3 _ _ _ _)
      | (with_reducible exact ih4 _ _ _ _ _)
      | (with_reducible exact LeO.refl _)
      | (with_reducible exact LeO.none _)
      | (with_reducible refine LeO.ite ?_ ?_)
      | (with_reducible refine LeO.bind ?_ (fun _ => ?_))
      | exact ih0 _ _ _
      | exact ih1 _ _ _ _
      | exact ih2 _ _ _
      | exact ih3 _ _ _ _
      | exact ih4 _ _ _ _ _
      | exact LeO.none _
      | refine LeO.ite ?_ ?_
      | refine LeO.bind ?_ (fun _ => ?_)
    · intro y0 y1 y2 y3
      unfold replevinref06_Table.l3
      repeat' first
      | (with_reducible exact ih0 _ _ _)
      | (with_reducible exact ih1 _ _ _ _)
      | (with_reducible exact ih2 _ _ _)
      | (with_reducible exact ih3 _ _ _ _)
      | (with_reducible exact ih4 _ _ _ _ _)
      | (with_reducible exact LeO.refl _)
      | (with_reducible exact LeO.none _)
      | (with_reducible refine LeO.ite ?_ ?_)
      | (with_reducible refine LeO.bind ?_ (fun _ => ?_))
      | exact ih0 _ _ _
      | exact ih1 _ _ _ _
      | exact ih2 _ _ _
      | exact ih3 _ _ _ _
      | exact ih4 _ _ _ _ _
      | exact LeO.none _
      | refine LeO.ite ?_ ?_
      | refine LeO.bind ?_ (fun _ => ?_)
    · intro y0 y1 y2 y3 y4
      unfold replevinref06_Table.l4
      repeat' first
      | (with_reducible exact ih0 _ _ _)
      | (with_reducible exact ih1 _ _ _ _)
      | (with_reducible exact ih2 _ _ _)
      | (with_reducible exact ih3 _ _ _ _)
      | (with_reducible exact ih4 _ _ _ _ _)
      | (with_reducible exact LeO.refl _)
      | (with_reducible exact LeO.none _)
      | (with_reducible refine LeO.ite ?_ ?_)
      | (with_reducible refine LeO.bind ?_ (fun _ => ?_))
      | exact ih0 _ _ _
      | exact ih1 _ _ _ _
      | exact ih2 _ _ _
      | exact ih3 _ _ _ _
      | exact ih4 _ _ _ _ _
      | exact LeO.none _
      | refine LeO.ite ?_ ?_
      | refine LeO.bind ?_ (fun _ => ?_)
theorem replevinref06_Table.mono : ∀ a0 k, LeO (replevinref06_Table.f k a0) (replevinref06_Table.f (k + 1) a0) := by
  intro a0 k
  obtain ⟨ih0, ih1, ih2, ih3, ih4⟩ := replevinref06_Table.mono_l k
  unfold replevinref06_Table.f
  repeat' first
      | (with_reducible exact ih0 _ _ _)
      | (with_reducible exact ih1 _ _ _ _)
      | (with_reducible exact ih2 _ _ _)
      | (with_reducible exact ih3 _ _ _ _)
      | (with_reducible exact ih4 _ _ _ _ _)
      | (with_reducible exact LeO.refl _)
      | (with_reducible exact LeO.none _)
      | (with_reducible refine LeO.ite ?_ ?_)
      | (with_reducible refine LeO.bind ?_ (fun _ => ?_))
      | exact ih0 _ _ _
      | exact ih1 _ _ _ _
      | exact ih2 _ _ _
      | exact ih3 _ _ _ _
      | exact ih4 _ _ _ _ _
      | exact LeO.none _
      | refine LeO.ite ?_ ?_
      | refine LeO.bind ?_ (fun _ => ?_)
def replevinref06_Table.T21 : Bool × List (List Nat × List Nat) := (true, [([], []), ([], []), ([0, 1], [0, 1]), ([2], [2]), ([], []), ([], []), ([], []), ([5, 6], [5, 6]), ([7], [7]), ([], []), ([8, 9], [8, 9]), ([10], [10]), ([11], [11]), ([12], [12]), ([12], [12]), ([13, 14, 12], [12, 13, 14]), ([15, 12], [12, 15]), ([12], [12]), ([16, 17, 12], [12, 16, 17]), ([18, 12], [12, 18]), ([12, 19], [12, 19]), ([3, 4, 0, 1, 2, 3, 4, 5, 6, 7, 8, 9, 10, 11, 12, 13, 14, 15, 16, 17, 18, 19, 20], [3, 4]), ([21, 20, 12, 0, 1, 2, 3, 4, 5, 6, 7, 8, 9, 10, 11, 12, 13, 14, 15, 16, 17, 18, 19, 20], [20, 21])])
def replevinref06_Table.B21 : List Nat := [0, 0, 3, 7, 0, 0, 0, 96, 224, 0, 992, 2016, 4064, 8160, 8160, 32736, 65504, 8160, 262112, 524256, 1048544, 2097151, 4194303]
theorem replevinref06_Table.tab21 : rtab .any (opsOf Try.f52 21) = replevinref06_Table.T21 := by kernel_rfl
theorem replevinref06_Table.bits21 : waitsOk replevinref06_Table.T21.2 replevinref06_Table.B21 = true := by kernel_rfl
set_option maxHeartbeats 8000000 in
set_option maxRecDepth 100000 in
theorem replevinref06_Table.calls (k : Nat) (A0 : Option Addr) (c0 : Nat) (l0 : List (List Int)) (r : List (List Bool)) (w : World) (hr0 : Kd.C (Kd.slice 3 (Kd.int .i64)) w A0 l0.length l0) (hc0 : l0.length ≤ c0) (h : replevinref06_Table.f k l0 = some r) :
    Calls Try.prog 52 #[.slice A0 l0.length c0] w fun e w' => ∃ v0_ : Value, e = .returned (v0_) ∧ Kd.S (Kd.slice 4 Kd.bool) 78 w' w.heap.size (fun _ => True) v0_ r ∧ Below w.heap.size w w' := by
  have HR0 := Aside0.mk hr0
  have HC0 := Aside0.mk hc0
  clear hr0 hc0
  have HB := Aside0.mk (Below.refl w.heap.size w)
  have H : (replevinref06_Table.l0 k l0 (([] : List (List Bool))) 0) = some r := h
  clear h
  obtain ⟨y346, hy346⟩ : ∃ y_ : List (List Bool), y_ = (([] : List (List Bool))) := ⟨_, rfl⟩
  replace H : (replevinref06_Table.l0 k l0 y346 0) = some r := by first | (rw [hy346]; with_reducible exact H) | (have H2_ := (Option.bind_some _ _).symm.trans H; rw [hy346]; with_reducible exact H2_) | (have H2_ := (Option.bind_some _ _).symm.trans H; with_reducible exact H2_) | with_reducible exact H | (rw [hy346]; exact H) | exact H
  have Ny346 := Aside0.mk hy346
  clear hy346
  have H' := Aside0.mk H
  clear H
  go_enter Try.func52, Try.ntmps52
  go_wp2_with (first | ((with_reducible refine gate_dst (N := 10) rfl ?_); (try (refine gate_guard (by rfl) ?_; dsimp only)); refine Kd.S_lit (Kd.slice 4 Kd.bool) _ 78 ?hg (N := 10) ?hd (xs := ([] : List (List Bool))) (inner := []) (ok := fun _ => True) (okp := fun _ => True) ?hr ?hp (fun _ hk => hk) trivial (Below.refl _ _) (Nat.le_refl _) (by simp) ?_; (case hd => rfl); (case hg => rfl); (case hr => first | (go_simp; done) | (go_simp; rfl)); (case hp => exact (Reps.none _ _)); intro v347 w2 ho3 hb hg_ hnew_; clear hg_ hnew_; (first | rw [← Ny346.out] at ho3 | (simp only [Int.reduceToNat] at ho3; rw [← Ny346.out] at ho3)); have n0_ := Aside0.mk (Kd.S_lower ho3 (below_size (by repeat (first | (with_reducible first | exact HB.out | apply below_alloc | apply pw_below_drewN | apply below_drew1) | exact HB.out)))); have n1_ := Aside0.mk (below_step (by repeat (first | (with_reducible first | exact HB.out | apply below_alloc | apply pw_below_drewN | apply below_drew1) | exact HB.out)) hb); clear HB; have HO348 := n0_; have HB := n1_; clear n0_ n1_; clear hb ho3))
  go_loopg [3, 4] k (fun kq v3 v4 w' => ∃ (x3_1 : List (List Bool)) (x4_1 : Int), v4 = .int .i64 x4_1 ∧ Aside0 (replevinref06_Table.l0 kq l0 x3_1 x4_1 = some r) ∧ Aside0 (kq ≤ k) ∧ Aside0 (Kd.S (Kd.slice 4 Kd.bool) 78 w' w.heap.size (fun _ => True) v3 x3_1) ∧ Aside0 (Below w.heap.size w w'))
  case atStart => exact ⟨(y346), (0), (by first | rfl | (simp; done) | (simp [*]; done)), H', ⟨Nat.le_refl _⟩, ⟨by (with_reducible repeat (first | apply Kd.S_alloc | apply Kd.S_drewN | apply Kd.S_drew)); exact HO348.out⟩, ⟨by repeat (first | (with_reducible first | exact HB.out | apply below_alloc | apply pw_below_drewN | apply below_drew1) | exact HB.out)⟩⟩
  case round =>
    clear H'
    try clear p2
    obtain ⟨x3_1, x4_1, rfl, HA, HK1, HO_3, HB⟩ := hrel
    cases gk with
    | zero => exact absurd HA.out (by simp [replevinref06_Table.l0])
    | succ k1 =>
      have H := HA.out
      clear HA
      simp only [replevinref06_Table.l0] at H
      by_cases c4 : x4_1 < (l0.length : Int)
      · rw [if_pos c4] at H
        have c4b0 : decide (x4_1 < (l0.length : Int)) = true := decide_eq_true c4
        clear c4
        by_cases c5 : 0 ≤ (l0.length : Int)
        · rw [if_pos c5] at H
          have c5b0 := eq_true c5
          have c5b1 : decide (0 ≤ (l0.length : Int)) = true := decide_eq_true c5
          clear c5
          by_cases c6 : ((l0.length : Int) : Int).toNat ≤ 281474976710656
          · rw [if_pos c6] at H
            have c6b0 := eq_true c6
            have c6b1 : decide (((l0.length : Int) : Int).toNat ≤ 281474976710656) = true := decide_eq_true c6
            clear c6
            obtain ⟨y349, hy349⟩ : ∃ y_ : List Bool, y_ = (List.replicate ((l0.length : Int) : Int).toNat false) := ⟨_, rfl⟩
            replace H : (if x3_1.length < 5864062014805 then (replevinref06_Table.l1 k1 l0 (x3_1 ++ [y349]) x4_1 0) else (none)) = some r := by first | (rw [hy349]; with_reducible exact H) | (have H2_ := (Option.bind_some _ _).symm.trans H; rw [hy349]; with_reducible exact H2_) | (have H2_ := (Option.bind_some _ _).symm.trans H; with_reducible exact H2_) | with_reducible exact H | (rw [hy349]; exact H) | exact H
            have Ny349 := Aside0.mk hy349
            clear hy349
            by_cases c7 : x3_1.length < 5864062014805
            · rw [if_pos c7] at H
              have LMc7 := Aside0.mk c7
              clear c7
              obtain ⟨y352, hy352⟩ : ∃ y_ : List (List Bool), y_ = (x3_1 ++ [y349]) := ⟨_, rfl⟩
              replace H : (replevinref06_Table.l1 k1 l0 y352 x4_1 0) = some r := by first | (rw [hy352]; with_reducible exact H) | (have H2_ := (Option.bind_some _ _).symm.trans H; rw [hy352]; with_reducible exact H2_) | (have H2_ := (Option.bind_some _ _).symm.trans H; with_reducible exact H2_) | with_reducible exact H | (rw [hy352]; exact H) | exact H
              have Ny352 := Aside0.mk hy352
              clear hy352
              have H' := Aside0.mk H
              clear H
              go_wp2_with (first | ((with_reducible refine gate_dst (N := 20) rfl ?_); (try (refine gate_guard (by rfl) ?_; dsimp only)); refine Kd.R_make Kd.bool _ 4 rfl (N := 20) rfl 78 _ _ rfl (l0.length : Int) rfl rfl Try.underlying78 (.bool false) 1 info4 rfl (by decide) (by omega) false (ok := fun _ => True) (okp := fun _ => True) rfl (fun _ hk => hk) trivial (of_decide_eq_true (by first | (with_reducible assumption) | assumption)) (Nat.le_trans (Nat.mul_le_mul_right _ (of_decide_eq_true (by first | (with_reducible assumption) | assumption) : (l0.length : Int).toNat ≤ 281474976710656)) (by omega)) (Below.refl _ _) (Nat.le_refl _) ?_; intro v350 w8 ho9 hb hg_ hnew_; clear hg_ hnew_; (first | rw [← Ny349.out] at ho9 | (simp only [Int.reduceToNat] at ho9; rw [← Ny349.out] at ho9)); have n0_ := Aside0.mk (Kd.S_elder' (by (with_reducible repeat (first | apply Kd.S_alloc | apply Kd.S_drewN | apply Kd.S_drew)); exact HO_3.out) (Kd.R_base ho9) hb); have n1_ := Aside0.mk (Kd.R_lower ho9 (below_size (by repeat (first | (with_reducible first | exact HB.out | apply below_alloc | apply pw_below_drewN | apply below_drew1) | exact HB.out)))); have n2_ := Aside0.mk (below_step (by repeat (first | (with_reducible first | exact HB.out | apply below_alloc | apply pw_below_drewN | apply below_drew1) | exact HB.out)) hb); clear HO_3; clear HB; have HO_3 := n0_; have HO351 := n1_; have HB := n2_; clear n0_ n1_ n2_; clear hb ho9; obtain ⟨Ao11, co11, eo11⟩ := Kd.R_slice HO351.out; subst eo11) | ((with_reducible refine gate_builtin (b := .append) (xs := #[.tmp 17, .tmp 21]) rfl ?_); (try (refine gate_guard (by rfl) ?_; dsimp only)); at_builtin; refine Kd.S_append (Kd.slice 4 Kd.bool) (w0 := w) w.heap.size rfl (.tmp 17) (.tmp 21) 76 78 (.slice none 0 0) 24 rfl Try.underlying76 info78 rfl (by decide) (by omega) u3 x3_1 y349 [.slice Ao11 y349.length co11] (fun _ => True) (fun k_ => some k_ = (.slice Ao11 y349.length co11 : Value).ownBlock) rfl rfl ?aP (fun k_ hk_ => ((Kd.R_mono (ok' := fun k_ => ((fun _ => True)) k_ ∧ some k_ ≠ (u3 : Value).ownBlock) (Kd.R_apart' (HO351.out) (Kd.S_typed HO_3.out) (by decide)) (fun k_ hk => ⟨trivial, hk.2⟩))).1 k_ hk_.symm) ?aF ?aO ?aB ?aS ?aL ?_; (case aP => exact Kd.M_row (Kd.R_mono (Kd.R_tight rfl (Kd.R_mono (ok' := fun k_ => ((fun _ => True)) k_ ∧ some k_ ≠ (u3 : Value).ownBlock) (Kd.R_apart' (HO351.out) (Kd.S_typed HO_3.out) (by decide)) (fun k_ hk => ⟨trivial, hk.2⟩))) (fun _ h_ => h_))); (case aB => exact (by repeat (first | (with_reducible first | exact HB.out | apply below_alloc | apply pw_below_drewN | apply below_drew1) | exact HB.out))); (case aF => exact (fun _ _ => trivial)); (case aO => exact (by (with_reducible repeat (first | apply Kd.S_alloc | apply Kd.S_drewN | apply Kd.S_drew)); exact Kd.S_mono HO_3.out (fun k_ hk => ⟨trivial, fun e_ => hk.2 e_⟩))); (case aS => exact (below_size (by repeat (first | (with_reducible first | exact HB.out | apply below_alloc | apply pw_below_drewN | apply below_drew1) | exact HB.out)))); (case aL => have := LMc7.out; omega); intro v353 w10 ho hb hg hat; rw [← Ny352.out] at ho; have n0_ := Aside0.mk (hb); have n1_ := Aside0.mk (ho); clear HB; clear HO_3; clear HO351; have HB := n0_; have HO354 := n1_; clear n0_ n1_; clear ho hb hg hat))
              go_loopg [5] k1 (fun kq v5 w' => ∃ (x3_2 : List (List Bool)) (x5_2 : Int), v5 = .int .i64 x5_2 ∧ Aside0 (replevinref06_Table.l1 kq l0 x3_2 x4_1 x5_2 = some r) ∧ Aside0 (kq ≤ k1) ∧ Aside0 (Kd.S (Kd.slice 4 Kd.bool) 78 w' w.heap.size (fun _ => True) v353 x3_2) ∧ Aside0 (Below w.heap.size w w'))
              case atStart => exact ⟨(y352), (0), (by first | rfl | (simp; done) | (simp [*]; done)), H', ⟨Nat.le_refl _⟩, ⟨by (with_reducible repeat (first | apply Kd.S_alloc | apply Kd.S_drewN | apply Kd.S_drew)); exact HO354.out⟩, ⟨by repeat (first | (with_reducible first | exact HB.out | apply below_alloc | apply pw_below_drewN | apply below_drew1) | exact HB.out)⟩⟩
              case round =>
                clear H'
                try clear p2
                try clear c4
                try clear c4b0
                try clear c5
                try clear c5b0
                try clear c5b1
                try clear c6
                try clear c6b0
                try clear c6b1
                try clear c7
                try clear p2
                obtain ⟨x3_2, x5_2, rfl, HA, HK2, HO_3, HB⟩ := hrel
                cases gk with
                | zero => exact absurd HA.out (by simp [replevinref06_Table.l1])
                | succ k2 =>
                  have H := HA.out
                  clear HA
                  simp only [replevinref06_Table.l1] at H
                  by_cases c12 : 0 ≤ x4_1
                  · rw [if_pos c12] at H
                    have c12b0 : decide (0 ≤ x4_1) = true := decide_eq_true c12
                    clear c12
                    by_cases c13 : x4_1 < (l0.length : Int)
                    · rw [if_pos c13] at H
                      have c13b0 : decide (x4_1 < (l0.length : Int)) = true := decide_eq_true c13
                      clear c13
                      by_cases c14 : x5_2 < ((rd_L8 l0 x4_1).length : Int)
                      · rw [if_pos c14] at H
                        have c14b0 : decide (x5_2 < ((rd_L8 l0 x4_1).length : Int)) = true := decide_eq_true c14
                        clear c14
                        by_cases c15 : 0 ≤ x5_2
                        · rw [if_pos c15] at H
                          have c15b0 : decide (0 ≤ x5_2) = true := decide_eq_true c15
                          clear c15
                          by_cases c16 : (rd (rd_L8 l0 x4_1) x5_2) ≥ 0
                          · rw [if_pos c16] at H
                            have c16b0 : decide (0 ≤ (rd (rd_L8 l0 x4_1) x5_2)) = true := decide_eq_true c16
                            clear c16
                            by_cases c17 : (rd (rd_L8 l0 x4_1) x5_2) < (l0.length : Int)
                            · rw [if_pos c17] at H
                              have c17b0 : decide ((rd (rd_L8 l0 x4_1) x5_2) < (l0.length : Int)) = true := decide_eq_true c17
                              clear c17
                              by_cases c18 : x4_1 < (x3_2.length : Int)
                              · rw [if_pos c18] at H
                                have c18b0 : decide (x4_1 < (x3_2.length : Int)) = true := decide_eq_true c18
                                clear c18
                                by_cases c19 : 0 ≤ (rd (rd_L8 l0 x4_1) x5_2)
                                · rw [if_pos c19] at H
                                  have c19b0 : decide (0 ≤ (rd (rd_L8 l0 x4_1) x5_2)) = true := decide_eq_true c19
                                  clear c19
                                  by_cases c20 : (rd (rd_L8 l0 x4_1) x5_2) < ((rd_L10 x3_2 x4_1).length : Int)
                                  · rw [if_pos c20] at H
                                    have c20b0 : decide ((rd (rd_L8 l0 x4_1) x5_2) < ((rd_L10 x3_2 x4_1).length : Int)) = true := decide_eq_true c20
                                    clear c20
                                    obtain ⟨y359, hy359⟩ : ∃ y_ : List Bool, y_ = ((rd_L10 x3_2 x4_1).set ((rd (rd_L8 l0 x4_1) x5_2) : Int).toNat true) := ⟨_, rfl⟩
                                    replace H : (replevinref06_Table.l1 k2 l0 (x3_2.set (x4_1 : Int).toNat y359) x4_1 (wrap64 (x5_2 + 1))) = some r := by first | (rw [hy359]; with_reducible exact H) | (have H2_ := (Option.bind_some _ _).symm.trans H; rw [hy359]; with_reducible exact H2_) | (have H2_ := (Option.bind_some _ _).symm.trans H; with_reducible exact H2_) | with_reducible exact H | (rw [hy359]; exact H) | exact H
                                    have Ny359 := Aside0.mk hy359
                                    clear hy359
                                    obtain ⟨y361, hy361⟩ : ∃ y_ : List (List Bool), y_ = (x3_2.set (x4_1 : Int).toNat y359) := ⟨_, rfl⟩
                                    replace H : (replevinref06_Table.l1 k2 l0 y361 x4_1 (wrap64 (x5_2 + 1))) = some r := by first | (rw [hy361]; with_reducible exact H) | (have H2_ := (Option.bind_some _ _).symm.trans H; rw [hy361]; with_reducible exact H2_) | (have H2_ := (Option.bind_some _ _).symm.trans H; with_reducible exact H2_) | with_reducible exact H | (rw [hy361]; exact H) | exact H
                                    have Ny361 := Aside0.mk hy361
                                    clear hy361
                                    have H' := Aside0.mk H
                                    clear H
                                    have p355 : 0 ≤ (x4_1 : Int) := of_decide_eq_true (by first | (with_reducible assumption) | assumption)
                                    have q355 : x4_1 < (l0.length : Int) := of_decide_eq_true (by first | (with_reducible assumption) | assumption)
                                    obtain ⟨ad355, A355_0, c355_0, e355, hx355_0, hl355_0, hi355_0⟩ := at_L8 HR0.out x4_1 p355 q355
                                    cases e355
                                    replace hx355_0 := (HB.out.cell (World.block_lt_of_cell? w _ hx355_0)).trans hx355_0
                                    have HR355_0 := Aside0.mk hi355_0
                                    have HC355_0 := Aside0.mk hl355_0
                                    clear hi355_0 hl355_0
                                    replace p355 := eq_true p355
                                    replace q355 := eq_true q355
                                    have p356 : 0 ≤ (x4_1 : Int) := of_decide_eq_true (by first | (with_reducible assumption) | assumption)
                                    have q356 : x4_1 < (l0.length : Int) := of_decide_eq_true (by first | (with_reducible assumption) | assumption)
                                    obtain ⟨ad356, A356_0, c356_0, e356, hx356_0, hl356_0, hi356_0⟩ := at_L8 HR0.out x4_1 p356 q356
                                    obtain rfl : ad355 = ad356 := (by injection e356)
                                    replace hx356_0 := (HB.out.cell (World.block_lt_of_cell? w _ hx356_0)).trans hx356_0
                                    have HR356_0 := Aside0.mk hi356_0
                                    have HC356_0 := Aside0.mk hl356_0
                                    clear hi356_0 hl356_0
                                    replace p356 := eq_true p356
                                    replace q356 := eq_true q356
                                    have ea_ := Option.some.inj (hx355_0.symm.trans hx356_0)
                                    injection ea_ with ea_ en_ ec_
                                    subst ea_
                                    subst ec_
                                    clear en_
                                    have p357 : 0 ≤ (x5_2 : Int) := of_decide_eq_true (by first | (with_reducible assumption) | assumption)
                                    have q357 : x5_2 < ((rd_L8 l0 x4_1).length : Int) := of_decide_eq_true (by first | (with_reducible assumption) | assumption)
                                    obtain ⟨ad357, e357, hx357_0⟩ := Kd.at_int HR356_0.out x5_2 p357 q357
                                    cases e357
                                    replace hx357_0 := (HB.out.cell (World.block_lt_of_cell? w _ hx357_0)).trans hx357_0
                                    replace p357 := eq_true p357
                                    replace q357 := eq_true q357
                                    obtain ⟨Ao22, co22, eo22⟩ := Kd.S_slice HO_3.out
                                    subst eo22
                                    have p358 : 0 ≤ (x4_1 : Int) := of_decide_eq_true (by first | (with_reducible assumption) | assumption)
                                    have q358 : x4_1 < (x3_2.length : Int) := of_decide_eq_true (by first | (with_reducible assumption) | assumption)
                                    obtain ⟨ad358, A358_0, c358_0, e358, hx358_0, hl358_0, hi358_0⟩ := at_L10 (Kd.S_reads' HO_3.out).2.2 x4_1 p358 q358
                                    cases e358
                                    obtain ⟨ce358, hce358, hMe358, hcc358⟩ := Kd.S_get HO_3.out [] x4_1 p358 (by first | exact q358 | exact of_decide_eq_true (by first | (with_reducible assumption) | assumption) | (have e_ := (Kd.S_reads' HO_3.out).1; omega))
                                    obtain ⟨ve358_0, rfl, ge358_0⟩ := hMe358
                                    have hv358_0 := hcc358 0 _ rfl
                                    rw [Nat.add_zero, show ((Kd.slice 4 Kd.bool)).sz = 1 from rfl, Nat.mul_one] at hv358_0
                                    replace hv358_0 := Option.some.inj (hv358_0.symm.trans hx358_0)
                                    rw [hv358_0] at ge358_0
                                    have HL358_0 := Aside0.mk (show Kd.R Kd.bool 4 _ _ _ _ (rd_L10 x3_2 x4_1) from ge358_0)
                                    clear hv358_0 ge358_0
                                    have HX358_0 := Aside0.mk hx358_0
                                    clear hcc358 hce358
                                    have HR358_0 := Aside0.mk hi358_0
                                    have HC358_0 := Aside0.mk hl358_0
                                    clear hi358_0 hl358_0
                                    replace p358 := eq_true p358
                                    replace q358 := eq_true q358
                                    have p21 : 0 ≤ ((rd (rd_L8 l0 x4_1) x5_2) : Int) := of_decide_eq_true (by first | (with_reducible assumption) | assumption)
                                    have q21 : ((rd (rd_L8 l0 x4_1) x5_2) : Int) < (((rd_L10 x3_2 x4_1).length : Int) : Int) := of_decide_eq_true (by first | (with_reducible assumption) | assumption)
                                    obtain ⟨go21, co21, eo21, gb21, gl21, cl21, HG21⟩ := Kd.R_form HL358_0.out (by omega)
                                    (first | cases eo21 | (injection eo21 with ea_ en_ ec_; (first | subst ea_ | (injection ea_ with ea_; subst ea_)); subst ec_; clear en_))
                                    have GB21 := Aside0.mk gb21
                                    have GG21 := Aside0.mk HG21
                                    clear gb21 gl21 HG21
                                    obtain ⟨hx21_0, hf21_0⟩ := Kd.R_celln false HL358_0.out ((rd (rd_L8 l0 x4_1) x5_2) : Int) p21 q21
                                    replace p21 := eq_true p21
                                    replace q21 := eq_true q21
                                    have hq23 : (x4_1 : Int) < (x3_2.length : Int) := (by have h_ : (x4_1 : Int) < ((x3_2.length : Int) : Int) := of_decide_eq_true (by first | (with_reducible assumption) | assumption); first | exact h_ | (have e_ := (Kd.S_reads' HO_3.out).1; omega) | simpa only [List.length_set, List.length_set] using h_)
                                    obtain ⟨oki23, ce23, hcl23, hM23, hcc23, hok23, hbk23⟩ := Kd.S_borrow HO_3.out [] (x4_1 : Int) (of_decide_eq_true (by first | (with_reducible assumption) | assumption)) hq23
                                    obtain ⟨ve23_0, rfl, ge23_0⟩ := hM23
                                    have hv23 := hcc23 0 _ rfl
                                    rw [Nat.add_zero, show ((Kd.slice 4 Kd.bool)).sz = 1 from rfl, Nat.mul_one] at hv23
                                    replace hv23 := Option.some.inj (hv23.symm.trans HX358_0.out)
                                    subst hv23
                                    clear hcc23 hcl23
                                    replace ge23_0 := (show Kd.R Kd.bool 4 _ _ _ _ (rd_L10 x3_2 x4_1) from ge23_0)
                                    have HP23 := Kd.R_putg ge23_0 ((rd (rd_L8 l0 x4_1) x5_2) : Int) true
                                    go_wp2_with (first | ((with_reducible refine gate_store (t := 4) (p := 52) rfl ?_); refine store_event (t := 4) (p := 52) (v := ?vo_w24) (w1 := (wr.setCell ⟨go21, ((rd (rd_L8 l0 x4_1) x5_2) : Int).toNat, none⟩ (.bool true))) ?hg ?ho ?hn ?hr ?_; (case ho => rfl); (case hg => rfl); (case hn => rfl); (case hr => first | (go_simp; done) | (go_simp; rfl)); intro w24 hw; have hg : wr.grownBy w24 (some go21) := (by rw [hw]; exact HP23.2); have hz_ : Kd.R Kd.bool 4 w24 w.heap.size oki23 (.slice (some ⟨go21, 0, none⟩) (rd_L10 x3_2 x4_1).length c358_0) y359 := (by rw [hw, Ny359.out]; exact HP23.1); have hp_ : Kd.S (Kd.slice 4 Kd.bool) 78 w24 w.heap.size (fun _ => True) (.slice (some ad358) x3_2.length co22) y361 := (by rw [Ny361.out]; exact hbk23 hg (fun k_ e_ => by injection e_ with e_; subst e_; exact ge23_0.1 _ rfl) (Kd.M_row hz_)); have hm_ := Kd.R_mono hz_ hok23; clear HP23 hbk23; have n0_ := Aside0.mk (hp_); have n1_ := Aside0.mk ((by rw [hw]; exact below_set (HB.out) GB21.out : Below w.heap.size w w24)); have n2_ := Aside0.mk (hm_); have n3_ := Aside0.mk ((Kd.R_reads' hm_).2.1); clear HO_3; clear HB; clear HL358_0; have HO_3 := n0_; have HB := n1_; have HL375 := n2_; have HC360 := n3_; clear n0_ n1_ n2_ n3_; clear hg hw hp_ hz_ hm_ hok23))
                                    go_roundg k2
                                    case measure => have := HK1.out; have := HK2.out; omega
                                    case rel => exact ⟨(y361), (wrap64 (x5_2 + 1)), (by first | rfl | (simp; done) | (simp [*]; done)), H', ⟨by have := HK1.out; have := HK2.out; omega⟩, ⟨by (with_reducible repeat (first | apply Kd.S_alloc | apply Kd.S_drewN | apply Kd.S_drew)); exact HO_3.out⟩, ⟨by repeat (first | (with_reducible first | exact HB.out | apply below_alloc | apply pw_below_drewN | apply below_drew1) | exact HB.out)⟩⟩
                                  · rw [if_neg c20] at H
                                    exact absurd H (by simp)
                                · rw [if_neg c19] at H
                                  exact absurd H (by simp)
                              · rw [if_neg c18] at H
                                exact absurd H (by simp)
                            · rw [if_neg c17] at H
                              have c17b0 : decide ((rd (rd_L8 l0 x4_1) x5_2) < (l0.length : Int)) = false := decide_eq_false c17
                              clear c17
                              have H' := Aside0.mk H
                              clear H
                              have p355 : 0 ≤ (x4_1 : Int) := of_decide_eq_true (by first | (with_reducible assumption) | assumption)
                              have q355 : x4_1 < (l0.length : Int) := of_decide_eq_true (by first | (with_reducible assumption) | assumption)
                              obtain ⟨ad355, A355_0, c355_0, e355, hx355_0, hl355_0, hi355_0⟩ := at_L8 HR0.out x4_1 p355 q355
                              cases e355
                              replace hx355_0 := (HB.out.cell (World.block_lt_of_cell? w _ hx355_0)).trans hx355_0
                              have HR355_0 := Aside0.mk hi355_0
                              have HC355_0 := Aside0.mk hl355_0
                              clear hi355_0 hl355_0
                              replace p355 := eq_true p355
                              replace q355 := eq_true q355
                              have p356 : 0 ≤ (x4_1 : Int) := of_decide_eq_true (by first | (with_reducible assumption) | assumption)
                              have q356 : x4_1 < (l0.length : Int) := of_decide_eq_true (by first | (with_reducible assumption) | assumption)
                              obtain ⟨ad356, A356_0, c356_0, e356, hx356_0, hl356_0, hi356_0⟩ := at_L8 HR0.out x4_1 p356 q356
                              obtain rfl : ad355 = ad356 := (by injection e356)
                              replace hx356_0 := (HB.out.cell (World.block_lt_of_cell? w _ hx356_0)).trans hx356_0
                              have HR356_0 := Aside0.mk hi356_0
                              have HC356_0 := Aside0.mk hl356_0
                              clear hi356_0 hl356_0
                              replace p356 := eq_true p356
                              replace q356 := eq_true q356
                              have ea_ := Option.some.inj (hx355_0.symm.trans hx356_0)
                              injection ea_ with ea_ en_ ec_
                              subst ea_
                              subst ec_
                              clear en_
                              have p357 : 0 ≤ (x5_2 : Int) := of_decide_eq_true (by first | (with_reducible assumption) | assumption)
                              have q357 : x5_2 < ((rd_L8 l0 x4_1).length : Int) := of_decide_eq_true (by first | (with_reducible assumption) | assumption)
                              obtain ⟨ad357, e357, hx357_0⟩ := Kd.at_int HR356_0.out x5_2 p357 q357
                              cases e357
                              replace hx357_0 := (HB.out.cell (World.block_lt_of_cell? w _ hx357_0)).trans hx357_0
                              replace p357 := eq_true p357
                              replace q357 := eq_true q357
                              go_wp2
                              go_roundg k2
                              case measure => have := HK1.out; have := HK2.out; omega
                              case rel => exact ⟨(x3_2), (wrap64 (x5_2 + 1)), (by first | rfl | (simp; done) | (simp [*]; done)), H', ⟨by have := HK1.out; have := HK2.out; omega⟩, ⟨by (with_reducible repeat (first | apply Kd.S_alloc | apply Kd.S_drewN | apply Kd.S_drew)); exact HO_3.out⟩, ⟨by repeat (first | (with_reducible first | exact HB.out | apply below_alloc | apply pw_below_drewN | apply below_drew1) | exact HB.out)⟩⟩
                          · rw [if_neg c16] at H
                            have c16b0 : decide (0 ≤ (rd (rd_L8 l0 x4_1) x5_2)) = false := decide_eq_false c16
                            clear c16
                            have H' := Aside0.mk H
                            clear H
                            have p355 : 0 ≤ (x4_1 : Int) := of_decide_eq_true (by first | (with_reducible assumption) | assumption)
                            have q355 : x4_1 < (l0.length : Int) := of_decide_eq_true (by first | (with_reducible assumption) | assumption)
                            obtain ⟨ad355, A355_0, c355_0, e355, hx355_0, hl355_0, hi355_0⟩ := at_L8 HR0.out x4_1 p355 q355
                            cases e355
                            replace hx355_0 := (HB.out.cell (World.block_lt_of_cell? w _ hx355_0)).trans hx355_0
                            have HR355_0 := Aside0.mk hi355_0
                            have HC355_0 := Aside0.mk hl355_0
                            clear hi355_0 hl355_0
                            replace p355 := eq_true p355
                            replace q355 := eq_true q355
                            have p356 : 0 ≤ (x4_1 : Int) := of_decide_eq_true (by first | (with_reducible assumption) | assumption)
                            have q356 : x4_1 < (l0.length : Int) := of_decide_eq_true (by first | (with_reducible assumption) | assumption)
                            obtain ⟨ad356, A356_0, c356_0, e356, hx356_0, hl356_0, hi356_0⟩ := at_L8 HR0.out x4_1 p356 q356
                            obtain rfl : ad355 = ad356 := (by injection e356)
                            replace hx356_0 := (HB.out.cell (World.block_lt_of_cell? w _ hx356_0)).trans hx356_0
                            have HR356_0 := Aside0.mk hi356_0
                            have HC356_0 := Aside0.mk hl356_0
                            clear hi356_0 hl356_0
                            replace p356 := eq_true p356
                            replace q356 := eq_true q356
                            have ea_ := Option.some.inj (hx355_0.symm.trans hx356_0)
                            injection ea_ with ea_ en_ ec_
                            subst ea_
                            subst ec_
                            clear en_
                            have p357 : 0 ≤ (x5_2 : Int) := of_decide_eq_true (by first | (with_reducible assumption) | assumption)
                            have q357 : x5_2 < ((rd_L8 l0 x4_1).length : Int) := of_decide_eq_true (by first | (with_reducible assumption) | assumption)
                            obtain ⟨ad357, e357, hx357_0⟩ := Kd.at_int HR356_0.out x5_2 p357 q357
                            cases e357
                            replace hx357_0 := (HB.out.cell (World.block_lt_of_cell? w _ hx357_0)).trans hx357_0
                            replace p357 := eq_true p357
                            replace q357 := eq_true q357
                            go_wp2
                            go_roundg k2
                            case measure => have := HK1.out; have := HK2.out; omega
                            case rel => exact ⟨(x3_2), (wrap64 (x5_2 + 1)), (by first | rfl | (simp; done) | (simp [*]; done)), H', ⟨by have := HK1.out; have := HK2.out; omega⟩, ⟨by (with_reducible repeat (first | apply Kd.S_alloc | apply Kd.S_drewN | apply Kd.S_drew)); exact HO_3.out⟩, ⟨by repeat (first | (with_reducible first | exact HB.out | apply below_alloc | apply pw_below_drewN | apply below_drew1) | exact HB.out)⟩⟩
                        · rw [if_neg c15] at H
                          exact absurd H (by simp)
                      · rw [if_neg c14] at H
                        have c14b0 : decide (x5_2 < ((rd_L8 l0 x4_1).length : Int)) = false := decide_eq_false c14
                        clear c14
                        have H' := Aside0.mk H
                        clear H
                        have p355 : 0 ≤ (x4_1 : Int) := of_decide_eq_true (by first | (with_reducible assumption) | assumption)
                        have q355 : x4_1 < (l0.length : Int) := of_decide_eq_true (by first | (with_reducible assumption) | assumption)
                        obtain ⟨ad355, A355_0, c355_0, e355, hx355_0, hl355_0, hi355_0⟩ := at_L8 HR0.out x4_1 p355 q355
                        cases e355
                        replace hx355_0 := (HB.out.cell (World.block_lt_of_cell? w _ hx355_0)).trans hx355_0
                        have HR355_0 := Aside0.mk hi355_0
                        have HC355_0 := Aside0.mk hl355_0
                        clear hi355_0 hl355_0
                        replace p355 := eq_true p355
                        replace q355 := eq_true q355
                        go_wp2
                        go_roundg k2
                        case measure => have := HK1.out; have := HK2.out; omega
                        case rel => exact ⟨(x3_2), (wrap64 (x4_1 + 1)), (by first | rfl | (simp; done) | (simp [*]; done)), H', ⟨by have := HK1.out; have := HK2.out; omega⟩, ⟨by (with_reducible repeat (first | apply Kd.S_alloc | apply Kd.S_drewN | apply Kd.S_drew)); exact HO_3.out⟩, ⟨by repeat (first | (with_reducible first | exact HB.out | apply below_alloc | apply pw_below_drewN | apply below_drew1) | exact HB.out)⟩⟩
                    · rw [if_neg c13] at H
                      exact absurd H (by simp)
                  · rw [if_neg c12] at H
                    exact absurd H (by simp)
            · rw [if_neg c7] at H
              exact absurd H (by simp)
          · rw [if_neg c6] at H
            exact absurd H (by simp)
        · rw [if_neg c5] at H
          exact absurd H (by simp)
      · rw [if_neg c4] at H
        have c4b0 : decide (x4_1 < (l0.length : Int)) = false := decide_eq_false c4
        clear c4
        have H' := Aside0.mk H
        clear H
        go_wp2
        go_loopg [7] k1 (fun kq v7 w' => ∃ (x3_2 : List (List Bool)) (x7_2 : Int), v7 = .int .i64 x7_2 ∧ Aside0 (replevinref06_Table.l2 kq l0 x3_2 x7_2 = some r) ∧ Aside0 (kq ≤ k1) ∧ Aside0 (Kd.S (Kd.slice 4 Kd.bool) 78 w' w.heap.size (fun _ => True) u3 x3_2) ∧ Aside0 (Below w.heap.size w w'))
        case atStart => exact ⟨(x3_1), (0), (by first | rfl | (simp; done) | (simp [*]; done)), H', ⟨Nat.le_refl _⟩, ⟨by (with_reducible repeat (first | apply Kd.S_alloc | apply Kd.S_drewN | apply Kd.S_drew)); exact HO_3.out⟩, ⟨by repeat (first | (with_reducible first | exact HB.out | apply below_alloc | apply pw_below_drewN | apply below_drew1) | exact HB.out)⟩⟩
        case round =>
          clear H'
          try clear c1
          try clear c2
          try clear p2
          try clear q2
          try clear hx2
          try clear hf2
          try clear c3
          try clear p3
          try clear q3
          try clear hx3
          try clear c4
          try clear c4b0
          try clear c5
          try clear c5b0
          try clear c5b1
          try clear c6
          try clear c6b0
          try clear c6b1
          try clear p6
          try clear c7
          try clear c12
          try clear c12b0
          try clear c13
          try clear c13b0
          try clear c14
          try clear c14b0
          try clear c15
          try clear c15b0
          try clear c16
          try clear c16b0
          try clear c17
          try clear c17b0
          try clear c18
          try clear c18b0
          try clear c19
          try clear c19b0
          try clear c20
          try clear c20b0
          try clear p21
          try clear q21
          try clear hx21
          try clear hf21
          try clear c23
          try clear q23
          try clear hx21_0
          try clear hx355_0
          try clear hx356_0
          try clear hx357_0
          try clear hx358_0
          try clear p2
          try clear p21
          try clear p355
          try clear p356
          try clear p357
          try clear p358
          try clear q21
          try clear q355
          try clear q356
          try clear q357
          try clear q358
          obtain ⟨x3_2, x7_2, rfl, HA, HK2, HO_3, HB⟩ := hrel
          cases gk with
          | zero => exact absurd HA.out (by simp [replevinref06_Table.l2])
          | succ k2 =>
            have H := HA.out
            clear HA
            simp only [replevinref06_Table.l2] at H
            by_cases c25 : x7_2 < (l0.length : Int)
            · rw [if_pos c25] at H
              have c25b0 : decide (x7_2 < (l0.length : Int)) = true := decide_eq_true c25
              clear c25
              have H' := Aside0.mk H
              clear H
              go_wp2
              go_loopg [8] k2 (fun kq v8 w' => ∃ (x3_3 : List (List Bool)) (x8_3 : Int), v8 = .int .i64 x8_3 ∧ Aside0 (replevinref06_Table.l3 kq l0 x3_3 x7_2 x8_3 = some r) ∧ Aside0 (kq ≤ k2) ∧ Aside0 (Kd.S (Kd.slice 4 Kd.bool) 78 w' w.heap.size (fun _ => True) u3 x3_3) ∧ Aside0 (Below w.heap.size w w'))
              case atStart => exact ⟨(x3_2), (0), (by first | rfl | (simp; done) | (simp [*]; done)), H', ⟨Nat.le_refl _⟩, ⟨by (with_reducible repeat (first | apply Kd.S_alloc | apply Kd.S_drewN | apply Kd.S_drew)); exact HO_3.out⟩, ⟨by repeat (first | (with_reducible first | exact HB.out | apply below_alloc | apply pw_below_drewN | apply below_drew1) | exact HB.out)⟩⟩
              case round =>
                clear H'
                try clear c1
                try clear c2
                try clear p2
                try clear q2
                try clear hx2
                try clear hf2
                try clear c3
                try clear p3
                try clear q3
                try clear hx3
                try clear c4
                try clear c4b0
                try clear c5
                try clear c5b0
                try clear c5b1
                try clear c6
                try clear c6b0
                try clear c6b1
                try clear p6
                try clear c7
                try clear c12
                try clear c12b0
                try clear c13
                try clear c13b0
                try clear c14
                try clear c14b0
                try clear c15
                try clear c15b0
                try clear c16
                try clear c16b0
                try clear c17
                try clear c17b0
                try clear c18
                try clear c18b0
                try clear c19
                try clear c19b0
                try clear c20
                try clear c20b0
                try clear p21
                try clear q21
                try clear hx21
                try clear hf21
                try clear c23
                try clear q23
                try clear c25
                try clear c25b0
                try clear hx21_0
                try clear hx355_0
                try clear hx356_0
                try clear hx357_0
                try clear hx358_0
                try clear p2
                try clear p21
                try clear p3
                try clear p355
                try clear p356
                try clear p357
                try clear p358
                try clear p6
                try clear q2
                try clear q21
                try clear q23
                try clear q3
                try clear q355
                try clear q356
                try clear q357
                try clear q358
                obtain ⟨x3_3, x8_3, rfl, HA, HK3, HO_3, HB⟩ := hrel
                cases gk with
                | zero => exact absurd HA.out (by simp [replevinref06_Table.l3])
                | succ k3 =>
                  have H := HA.out
                  clear HA
                  simp only [replevinref06_Table.l3] at H
                  by_cases c26 : x8_3 < (l0.length : Int)
                  · rw [if_pos c26] at H
                    have c26b0 : decide (x8_3 < (l0.length : Int)) = true := decide_eq_true c26
                    clear c26
                    have H' := Aside0.mk H
                    clear H
                    go_wp2
                    go_loopg [9] k3 (fun kq v9 w' => ∃ (x3_4 : List (List Bool)) (x9_4 : Int), v9 = .int .i64 x9_4 ∧ Aside0 (replevinref06_Table.l4 kq l0 x3_4 x7_2 x8_3 x9_4 = some r) ∧ Aside0 (kq ≤ k3) ∧ Aside0 (Kd.S (Kd.slice 4 Kd.bool) 78 w' w.heap.size (fun _ => True) u3 x3_4) ∧ Aside0 (Below w.heap.size w w'))
                    case atStart => exact ⟨(x3_3), (0), (by first | rfl | (simp; done) | (simp [*]; done)), H', ⟨Nat.le_refl _⟩, ⟨by (with_reducible repeat (first | apply Kd.S_alloc | apply Kd.S_drewN | apply Kd.S_drew)); exact HO_3.out⟩, ⟨by repeat (first | (with_reducible first | exact HB.out | apply below_alloc | apply pw_below_drewN | apply below_drew1) | exact HB.out)⟩⟩
                    case round =>
                      clear H'
                      try clear c1
                      try clear c2
                      try clear p2
                      try clear q2
                      try clear hx2
                      try clear hf2
                      try clear c3
                      try clear p3
                      try clear q3
                      try clear hx3
                      try clear c4
                      try clear c4b0
                      try clear c5
                      try clear c5b0
                      try clear c5b1
                      try clear c6
                      try clear c6b0
                      try clear c6b1
                      try clear p6
                      try clear c7
                      try clear c12
                      try clear c12b0
                      try clear c13
                      try clear c13b0
                      try clear c14
                      try clear c14b0
                      try clear c15
                      try clear c15b0
                      try clear c16
                      try clear c16b0
                      try clear c17
                      try clear c17b0
                      try clear c18
                      try clear c18b0
                      try clear c19
                      try clear c19b0
                      try clear c20
                      try clear c20b0
                      try clear p21
                      try clear q21
                      try clear hx21
                      try clear hf21
                      try clear c23
                      try clear q23
                      try clear c25
                      try clear c25b0
                      try clear c26
                      try clear c26b0
                      try clear hx21_0
                      try clear hx355_0
                      try clear hx356_0
                      try clear hx357_0
                      try clear hx358_0
                      try clear p2
                      try clear p21
                      try clear p3
                      try clear p355
                      try clear p356
                      try clear p357
                      try clear p358
                      try clear p6
                      try clear q2
                      try clear q21
                      try clear q23
                      try clear q3
                      try clear q355
                      try clear q356
                      try clear q357
                      try clear q358
                      obtain ⟨x3_4, x9_4, rfl, HA, HK4, HO_3, HB⟩ := hrel
                      cases gk with
                      | zero => exact absurd HA.out (by simp [replevinref06_Table.l4])
                      | succ k4 =>
                        have H := HA.out
                        clear HA
                        simp only [replevinref06_Table.l4] at H
                        by_cases c27 : x9_4 < (l0.length : Int)
                        · rw [if_pos c27] at H
                          have c27b0 : decide (x9_4 < (l0.length : Int)) = true := decide_eq_true c27
                          clear c27
                          by_cases c28 : 0 ≤ x8_3
                          · rw [if_pos c28] at H
                            have c28b0 : decide (0 ≤ x8_3) = true := decide_eq_true c28
                            clear c28
                            by_cases c29 : x8_3 < (x3_4.length : Int)
                            · rw [if_pos c29] at H
                              have c29b0 : decide (x8_3 < (x3_4.length : Int)) = true := decide_eq_true c29
                              clear c29
                              by_cases c30 : 0 ≤ x7_2
                              · rw [if_pos c30] at H
                                have c30b0 : decide (0 ≤ x7_2) = true := decide_eq_true c30
                                clear c30
                                by_cases c31 : x7_2 < ((rd_L10 x3_4 x8_3).length : Int)
                                · rw [if_pos c31] at H
                                  have c31b0 : decide (x7_2 < ((rd_L10 x3_4 x8_3).length : Int)) = true := decide_eq_true c31
                                  clear c31
                                  obtain ⟨bq32, hbq32⟩ : ∃ b_ : Bool, b_ = (rdOf false (rd_L10 x3_4 x8_3) x7_2) := ⟨_, rfl⟩
                                  replace H : (if bq32 = true then (if 0 ≤ x9_4 then (if x9_4 < ((rd_L10 x3_4 x8_3).length : Int) then (if rdOf false (rd_L10 x3_4 x8_3) x9_4 = true then (replevinref06_Table.l4 k4 l0 (x3_4.set (x8_3 : Int).toNat ((rd_L10 x3_4 x8_3).set (x9_4 : Int).toNat true)) x7_2 x8_3 (wrap64 (x9_4 + 1))) else (if x7_2 < (x3_4.length : Int) then (if x9_4 < ((rd_L10 x3_4 x7_2).length : Int) then (replevinref06_Table.l4 k4 l0 (x3_4.set (x8_3 : Int).toNat ((rd_L10 x3_4 x8_3).set (x9_4 : Int).toNat (rdOf false (rd_L10 x3_4 x7_2) x9_4))) x7_2 x8_3 (wrap64 (x9_4 + 1))) else (none)) else (none))) else (none)) else (none)) else (replevinref06_Table.l3 k4 l0 x3_4 x7_2 (wrap64 (x8_3 + 1)))) = some r := by rw [← hbq32] at H; exact H
                                  have Nbq32 := Aside0.mk hbq32
                                  clear hbq32
                                  by_cases c33 : bq32 = true
                                  · subst c33
                                    have H1 : (if 0 ≤ x9_4 then (if x9_4 < ((rd_L10 x3_4 x8_3).length : Int) then (if rdOf false (rd_L10 x3_4 x8_3) x9_4 = true then (replevinref06_Table.l4 k4 l0 (x3_4.set (x8_3 : Int).toNat ((rd_L10 x3_4 x8_3).set (x9_4 : Int).toNat true)) x7_2 x8_3 (wrap64 (x9_4 + 1))) else (if x7_2 < (x3_4.length : Int) then (if x9_4 < ((rd_L10 x3_4 x7_2).length : Int) then (replevinref06_Table.l4 k4 l0 (x3_4.set (x8_3 : Int).toNat ((rd_L10 x3_4 x8_3).set (x9_4 : Int).toNat (rdOf false (rd_L10 x3_4 x7_2) x9_4))) x7_2 x8_3 (wrap64 (x9_4 + 1))) else (none)) else (none))) else (none)) else (none)) = some r := by rw [if_pos rfl] at H; exact H
                                    clear H
                                    have H := H1
                                    clear H1
                                    by_cases c34 : 0 ≤ x9_4
                                    · rw [if_pos c34] at H
                                      have c34b0 : decide (0 ≤ x9_4) = true := decide_eq_true c34
                                      clear c34
                                      by_cases c35 : x9_4 < ((rd_L10 x3_4 x8_3).length : Int)
                                      · rw [if_pos c35] at H
                                        have c35b0 : decide (x9_4 < ((rd_L10 x3_4 x8_3).length : Int)) = true := decide_eq_true c35
                                        clear c35
                                        obtain ⟨bq36, hbq36⟩ : ∃ b_ : Bool, b_ = (rdOf false (rd_L10 x3_4 x8_3) x9_4) := ⟨_, rfl⟩
                                        replace H : (if bq36 = true then (replevinref06_Table.l4 k4 l0 (x3_4.set (x8_3 : Int).toNat ((rd_L10 x3_4 x8_3).set (x9_4 : Int).toNat true)) x7_2 x8_3 (wrap64 (x9_4 + 1))) else (if x7_2 < (x3_4.length : Int) then (if x9_4 < ((rd_L10 x3_4 x7_2).length : Int) then (replevinref06_Table.l4 k4 l0 (x3_4.set (x8_3 : Int).toNat ((rd_L10 x3_4 x8_3).set (x9_4 : Int).toNat (rdOf false (rd_L10 x3_4 x7_2) x9_4))) x7_2 x8_3 (wrap64 (x9_4 + 1))) else (none)) else (none))) = some r := by rw [← hbq36] at H; exact H
                                        have Nbq36 := Aside0.mk hbq36
                                        clear hbq36
                                        by_cases c37 : bq36 = true
                                        · subst c37
                                          have H1 : (replevinref06_Table.l4 k4 l0 (x3_4.set (x8_3 : Int).toNat ((rd_L10 x3_4 x8_3).set (x9_4 : Int).toNat true)) x7_2 x8_3 (wrap64 (x9_4 + 1))) = some r := by rw [if_pos rfl] at H; exact H
                                          clear H
                                          have H := H1
                                          clear H1
                                          obtain ⟨y367, hy367⟩ : ∃ y_ : List Bool, y_ = ((rd_L10 x3_4 x8_3).set (x9_4 : Int).toNat true) := ⟨_, rfl⟩
                                          replace H : (replevinref06_Table.l4 k4 l0 (x3_4.set (x8_3 : Int).toNat y367) x7_2 x8_3 (wrap64 (x9_4 + 1))) = some r := by first | (rw [hy367]; with_reducible exact H) | (have H2_ := (Option.bind_some _ _).symm.trans H; rw [hy367]; with_reducible exact H2_) | (have H2_ := (Option.bind_some _ _).symm.trans H; with_reducible exact H2_) | with_reducible exact H | (rw [hy367]; exact H) | exact H
                                          have Ny367 := Aside0.mk hy367
                                          clear hy367
                                          obtain ⟨y369, hy369⟩ : ∃ y_ : List (List Bool), y_ = (x3_4.set (x8_3 : Int).toNat y367) := ⟨_, rfl⟩
                                          replace H : (replevinref06_Table.l4 k4 l0 y369 x7_2 x8_3 (wrap64 (x9_4 + 1))) = some r := by first | (rw [hy369]; with_reducible exact H) | (have H2_ := (Option.bind_some _ _).symm.trans H; rw [hy369]; with_reducible exact H2_) | (have H2_ := (Option.bind_some _ _).symm.trans H; with_reducible exact H2_) | with_reducible exact H | (rw [hy369]; exact H) | exact H
                                          have Ny369 := Aside0.mk hy369
                                          clear hy369
                                          have H' := Aside0.mk H
                                          clear H
                                          obtain ⟨Ao39, co39, eo39⟩ := Kd.S_slice HO_3.out
                                          subst eo39
                                          have p362 : 0 ≤ (x8_3 : Int) := of_decide_eq_true (by first | (with_reducible assumption) | assumption)
                                          have q362 : x8_3 < (x3_4.length : Int) := of_decide_eq_true (by first | (with_reducible assumption) | assumption)
                                          obtain ⟨ad362, A362_0, c362_0, e362, hx362_0, hl362_0, hi362_0⟩ := at_L10 (Kd.S_reads' HO_3.out).2.2 x8_3 p362 q362
                                          cases e362
                                          obtain ⟨ce362, hce362, hMe362, hcc362⟩ := Kd.S_get HO_3.out [] x8_3 p362 (by first | exact q362 | exact of_decide_eq_true (by first | (with_reducible assumption) | assumption) | (have e_ := (Kd.S_reads' HO_3.out).1; omega))
                                          obtain ⟨ve362_0, rfl, ge362_0⟩ := hMe362
                                          have hv362_0 := hcc362 0 _ rfl
                                          rw [Nat.add_zero, show ((Kd.slice 4 Kd.bool)).sz = 1 from rfl, Nat.mul_one] at hv362_0
                                          replace hv362_0 := Option.some.inj (hv362_0.symm.trans hx362_0)
                                          rw [hv362_0] at ge362_0
                                          have HL362_0 := Aside0.mk (show Kd.R Kd.bool 4 _ _ _ _ (rd_L10 x3_4 x8_3) from ge362_0)
                                          clear hv362_0 ge362_0
                                          have HX362_0 := Aside0.mk hx362_0
                                          clear hcc362 hce362
                                          have HR362_0 := Aside0.mk hi362_0
                                          have HC362_0 := Aside0.mk hl362_0
                                          clear hi362_0 hl362_0
                                          replace p362 := eq_true p362
                                          replace q362 := eq_true q362
                                          have p363 : 0 ≤ (x7_2 : Int) := of_decide_eq_true (by first | (with_reducible assumption) | assumption)
                                          have q363 : x7_2 < ((rd_L10 x3_4 x8_3).length : Int) := of_decide_eq_true (by first | (with_reducible assumption) | assumption)
                                          obtain ⟨ad363, e363, hx363_0⟩ := Kd.at_bool (by repeat (first | (with_reducible exact HR362_0.out) | (with_reducible refine Kd.C_alloc ?_ _) | (with_reducible refine Kd.C_drewN ?_ _) | (with_reducible refine Kd.C_drew ?_) | exact HR362_0.out)) x7_2 p363 q363
                                          (try rw [← Nbq32.out] at hx363_0)
                                          (try rw [← Nbq36.out] at hx363_0)
                                          cases e363
                                          replace p363 := eq_true p363
                                          replace q363 := eq_true q363
                                          try go_wp2
                                          have n0_ := Aside0.mk (Kd.S_drew HO_3.out)
                                          have n1_ := Aside0.mk (Kd.R_drew HL362_0.out)
                                          have n2_ := Aside0.mk (Kd.C_drew HR362_0.out)
                                          have n3_ := Aside0.mk (below_drew1 HB.out)
                                          clear HO_3
                                          clear HL362_0
                                          clear HR362_0
                                          clear HB
                                          have HO_3 := n0_
                                          have HL362_0 := n1_
                                          have HR362_0 := n2_
                                          have HB := n3_
                                          clear n0_ n1_ n2_ n3_
                                          have p364 : 0 ≤ (x8_3 : Int) := of_decide_eq_true (by first | (with_reducible assumption) | assumption)
                                          have q364 : x8_3 < (x3_4.length : Int) := of_decide_eq_true (by first | (with_reducible assumption) | assumption)
                                          obtain ⟨ad364, A364_0, c364_0, e364, hx364_0, hl364_0, hi364_0⟩ := at_L10 (Kd.S_reads' HO_3.out).2.2 x8_3 p364 q364
                                          obtain rfl : ad362 = ad364 := (by injection e364)
                                          obtain ⟨ce364, hce364, hMe364, hcc364⟩ := Kd.S_get HO_3.out [] x8_3 p364 (by first | exact q364 | exact of_decide_eq_true (by first | (with_reducible assumption) | assumption) | (have e_ := (Kd.S_reads' HO_3.out).1; omega))
                                          obtain ⟨ve364_0, rfl, ge364_0⟩ := hMe364
                                          have hv364_0 := hcc364 0 _ rfl
                                          rw [Nat.add_zero, show ((Kd.slice 4 Kd.bool)).sz = 1 from rfl, Nat.mul_one] at hv364_0
                                          replace hv364_0 := Option.some.inj (hv364_0.symm.trans hx364_0)
                                          rw [hv364_0] at ge364_0
                                          have HL364_0 := Aside0.mk (show Kd.R Kd.bool 4 _ _ _ _ (rd_L10 x3_4 x8_3) from ge364_0)
                                          clear hv364_0 ge364_0
                                          have HX364_0 := Aside0.mk hx364_0
                                          clear hcc364 hce364
                                          have HR364_0 := Aside0.mk hi364_0
                                          have HC364_0 := Aside0.mk hl364_0
                                          clear hi364_0 hl364_0
                                          replace p364 := eq_true p364
                                          replace q364 := eq_true q364
                                          have p365 : 0 ≤ (x8_3 : Int) := of_decide_eq_true (by first | (with_reducible assumption) | assumption)
                                          have q365 : x8_3 < (x3_4.length : Int) := of_decide_eq_true (by first | (with_reducible assumption) | assumption)
                                          obtain ⟨ad365, A365_0, c365_0, e365, hx365_0, hl365_0, hi365_0⟩ := at_L10 (Kd.S_reads' HO_3.out).2.2 x8_3 p365 q365
                                          obtain rfl : ad362 = ad365 := (by injection e365)
                                          obtain ⟨ce365, hce365, hMe365, hcc365⟩ := Kd.S_get HO_3.out [] x8_3 p365 (by first | exact q365 | exact of_decide_eq_true (by first | (with_reducible assumption) | assumption) | (have e_ := (Kd.S_reads' HO_3.out).1; omega))
                                          obtain ⟨ve365_0, rfl, ge365_0⟩ := hMe365
                                          have hv365_0 := hcc365 0 _ rfl
                                          rw [Nat.add_zero, show ((Kd.slice 4 Kd.bool)).sz = 1 from rfl, Nat.mul_one] at hv365_0
                                          replace hv365_0 := Option.some.inj (hv365_0.symm.trans hx365_0)
                                          rw [hv365_0] at ge365_0
                                          have HL365_0 := Aside0.mk (show Kd.R Kd.bool 4 _ _ _ _ (rd_L10 x3_4 x8_3) from ge365_0)
                                          clear hv365_0 ge365_0
                                          have HX365_0 := Aside0.mk hx365_0
                                          clear hcc365 hce365
                                          have HR365_0 := Aside0.mk hi365_0
                                          have HC365_0 := Aside0.mk hl365_0
                                          clear hi365_0 hl365_0
                                          replace p365 := eq_true p365
                                          replace q365 := eq_true q365
                                          have ea_ := Option.some.inj (hx364_0.symm.trans hx365_0)
                                          injection ea_ with ea_ en_ ec_
                                          subst ea_
                                          subst ec_
                                          clear en_
                                          have p366 : 0 ≤ (x9_4 : Int) := of_decide_eq_true (by first | (with_reducible assumption) | assumption)
                                          have q366 : x9_4 < ((rd_L10 x3_4 x8_3).length : Int) := of_decide_eq_true (by first | (with_reducible assumption) | assumption)
                                          obtain ⟨ad366, e366, hx366_0⟩ := Kd.at_bool (by repeat (first | (with_reducible exact HR365_0.out) | (with_reducible refine Kd.C_alloc ?_ _) | (with_reducible refine Kd.C_drewN ?_ _) | (with_reducible refine Kd.C_drew ?_) | exact HR365_0.out)) x9_4 p366 q366
                                          (try rw [← Nbq32.out] at hx366_0)
                                          (try rw [← Nbq36.out] at hx366_0)
                                          cases e366
                                          replace p366 := eq_true p366
                                          replace q366 := eq_true q366
                                          have p38 : 0 ≤ (x9_4 : Int) := of_decide_eq_true (by first | (with_reducible assumption) | assumption)
                                          have q38 : (x9_4 : Int) < (((rd_L10 x3_4 x8_3).length : Int) : Int) := of_decide_eq_true (by first | (with_reducible assumption) | assumption)
                                          obtain ⟨go38, co38, eo38, gb38, gl38, cl38, HG38⟩ := Kd.R_form HL364_0.out (by omega)
                                          (first | cases eo38 | (injection eo38 with ea_ en_ ec_; (first | subst ea_ | (injection ea_ with ea_; subst ea_)); subst ec_; clear en_))
                                          have GB38 := Aside0.mk gb38
                                          have GG38 := Aside0.mk HG38
                                          clear gb38 gl38 HG38
                                          (first | simp only [add_plain] at hx366_0 | skip)
                                          obtain ⟨hx38_0, hf38_0⟩ := Kd.R_celln false HL364_0.out (x9_4 : Int) p38 q38
                                          replace p38 := eq_true p38
                                          replace q38 := eq_true q38
                                          have hq41 : (x8_3 : Int) < (x3_4.length : Int) := (by have h_ : (x8_3 : Int) < ((x3_4.length : Int) : Int) := of_decide_eq_true (by first | (with_reducible assumption) | assumption); first | exact h_ | (have e_ := (Kd.S_reads' HO_3.out).1; omega) | simpa only [List.length_set, List.length_set] using h_)
                                          obtain ⟨oki41, ce41, hcl41, hM41, hcc41, hok41, hbk41⟩ := Kd.S_borrow HO_3.out [] (x8_3 : Int) (of_decide_eq_true (by first | (with_reducible assumption) | assumption)) hq41
                                          obtain ⟨ve41_0, rfl, ge41_0⟩ := hM41
                                          have hv41 := hcc41 0 _ rfl
                                          rw [Nat.add_zero, show ((Kd.slice 4 Kd.bool)).sz = 1 from rfl, Nat.mul_one] at hv41
                                          replace hv41 := Option.some.inj (hv41.symm.trans HX364_0.out)
                                          subst hv41
                                          clear hcc41 hcl41
                                          replace ge41_0 := (show Kd.R Kd.bool 4 _ _ _ _ (rd_L10 x3_4 x8_3) from ge41_0)
                                          have HP41 := Kd.R_putg ge41_0 (x9_4 : Int) true
                                          rw [← Ny367.out] at HP41
                                          have HS41 := hbk41 HP41.2 (fun k_ e_ => by injection e_ with e_; subst e_; exact ge41_0.1 _ rfl) (x' := y367) (Kd.M_row HP41.1)
                                          rw [← Ny369.out] at HS41
                                          have HQ41 := Aside0.mk HS41
                                          clear HP41 HS41 hbk41 hok41
                                          refine start_ (n := 23) (S := fun w' => w'.cell? (ad362.add (x8_3).toNat) = some (.slice (some ⟨go38, 0, none⟩) (rd_L10 x3_4 x8_3).length c364_0) ∧ w'.cell? (ad362.add (x8_3).toNat) = some (.slice (some ⟨go38, 0, none⟩) (rd_L10 x3_4 x8_3).length c364_0) ∧ w'.cell? ⟨go38, (x9_4).toNat, none⟩ = some (.bool true)) (ds := [22]) #[false, false, false, false, false, false, false, false, false, false, false, false, false, false, false, false, false, false, false, false, false, false, false] (by kernel_rfl) rfl rfl ⟨hx364_0, hx365_0, hx366_0⟩ (fun hHeld => ?_); refine with_tabW replevinref06_Table.tab21 replevinref06_Table.bits21 (fun HT_ HW_ => ?_)
                                          generalize wr.drew = w40 at HO_3 HL362_0 HR362_0 HB GG38 HL364_0 HL365_0 HQ41 HR364_0 HR365_0 HX364_0 HX365_0 hf38_0 hx364_0 hx365_0 hx366_0 hx38_0 hHeld ⊢
                                          refine pure_ (i := 0) (N := some 80) (v := ?_) (a' := ?_) #[true, false, false, false, false, false, false, false, false, false, false, false, false, false, false, false, false, false, false, false, false, false, false] rfl rfl (any_of HT_.out (by kernel_rfl)) (fun _ _ _ h => h) (Or.inl ⟨by rfl, ?_⟩) ?_ ?_
                                          rotate_left
                                          · intro w'
                                            go_simp
                                            with_reducible rfl
                                          rotate_left
                                          · simp only [Act.put, List.setIfInBounds_toArray, List.set_cons_zero, List.set_cons_succ, i64_w, i32_w]
                                            rfl
                                          refine pure_ (i := 1) (N := some 81) (v := ?_) (a' := ?_) #[true, true, false, false, false, false, false, false, false, false, false, false, false, false, false, false, false, false, false, false, false, false, false] rfl rfl (any_of HT_.out (by kernel_rfl)) (fun _ _ _ h => h) (Or.inl ⟨by rfl, ?_⟩) ?_ ?_
                                          rotate_left
                                          · intro w'
                                            go_simp
                                            with_reducible rfl
                                          rotate_left
                                          · simp only [Act.put, List.setIfInBounds_toArray, List.set_cons_zero, List.set_cons_succ, i64_w, i32_w]
                                            rfl
                                          refine pure_ (i := 2) (N := some 82) (v := ?_) (a' := ?_) #[true, true, true, false, false, false, false, false, false, false, false, false, false, false, false, false, false, false, false, false, false, false, false] rfl rfl (any_of HT_.out (by kernel_rfl)) (fun _ _ _ h => h) (Or.inl ⟨by rfl, ?_⟩) ?_ ?_
                                          rotate_left
                                          · intro w'
                                            go_simp
                                            with_reducible rfl
                                          rotate_left
                                          · simp only [Act.put, List.setIfInBounds_toArray, List.set_cons_zero, List.set_cons_succ, i64_w, i32_w]
                                            rfl
                                          refine pure_ (i := 4) (N := some 84) (v := ?_) (a' := ?_) #[true, true, true, false, true, false, false, false, false, false, false, false, false, false, false, false, false, false, false, false, false, false, false] rfl rfl (any_of HT_.out (by kernel_rfl)) (fun _ _ _ h => h) (Or.inl ⟨by rfl, ?_⟩) ?_ ?_
                                          rotate_left
                                          · intro w'
                                            go_simp
                                            with_reducible rfl
                                          rotate_left
                                          · simp only [Act.put, List.setIfInBounds_toArray, List.set_cons_zero, List.set_cons_succ, i64_w, i32_w]
                                            rfl
                                          refine pure_ (i := 5) (N := some 85) (v := ?_) (a' := ?_) #[true, true, true, false, true, true, false, false, false, false, false, false, false, false, false, false, false, false, false, false, false, false, false] rfl rfl (any_of HT_.out (by kernel_rfl)) (fun _ _ _ h => h) (Or.inl ⟨by rfl, ?_⟩) ?_ ?_
                                          rotate_left
                                          · intro w'
                                            go_simp
                                            with_reducible rfl
                                          rotate_left
                                          · simp only [Act.put, List.setIfInBounds_toArray, List.set_cons_zero, List.set_cons_succ, i64_w, i32_w]
                                            rfl
                                          refine pure_ (i := 6) (N := some 86) (v := ?_) (a' := ?_) #[true, true, true, false, true, true, true, false, false, false, false, false, false, false, false, false, false, false, false, false, false, false, false] rfl rfl (any_of HT_.out (by kernel_rfl)) (fun _ _ _ h => h) (Or.inl ⟨by rfl, ?_⟩) ?_ ?_
                                          rotate_left
                                          · intro w'
                                            go_simp
                                            with_reducible rfl
                                          rotate_left
                                          · simp only [Act.put, List.setIfInBounds_toArray, List.set_cons_zero, List.set_cons_succ, i64_w, i32_w]
                                            rfl
                                          refine pure_ (i := 7) (N := some 87) (v := ?_) (a' := ?_) #[true, true, true, false, true, true, true, true, false, false, false, false, false, false, false, false, false, false, false, false, false, false, false] rfl rfl (any_of HT_.out (by kernel_rfl)) (fun _ _ _ h => h) (Or.inl ⟨by rfl, ?_⟩) ?_ ?_
                                          rotate_left
                                          · intro w'
                                            go_simp
                                            with_reducible rfl
                                          rotate_left
                                          · simp only [Act.put, List.setIfInBounds_toArray, List.set_cons_zero, List.set_cons_succ, i64_w, i32_w]
                                            rfl
                                          refine pure_ (i := 9) (N := some 89) (v := ?_) (a' := ?_) #[true, true, true, false, true, true, true, true, false, true, false, false, false, false, false, false, false, false, false, false, false, false, false] rfl rfl (any_of HT_.out (by kernel_rfl)) (fun _ _ _ h => h) (Or.inl ⟨by rfl, ?_⟩) ?_ ?_
                                          rotate_left
                                          · intro w'
                                            go_simp
                                            with_reducible rfl
                                          rotate_left
                                          · simp only [Act.put, List.setIfInBounds_toArray, List.set_cons_zero, List.set_cons_succ, i64_w, i32_w]
                                            rfl
                                          refine take_ (i := 3) (N := some 83) (v := ?_) (a' := ?_) #[true, true, true, true, true, true, true, true, false, true, false, false, false, false, false, false, false, false, false, false, false, false, false] rfl rfl (take_ofW HT_.out HW_.out (by kernel_rfl)) (fun _ _ _ h => h) (Or.inl ⟨by rfl, ?_⟩) hHeld ?_ ?_
                                          rotate_left
                                          · rintro w' ⟨s0, s1, s2⟩
                                            go_simp
                                            with_reducible rfl
                                          rotate_left
                                          · simp only [Act.put, List.setIfInBounds_toArray, List.set_cons_zero, List.set_cons_succ, i64_w, i32_w]
                                            rfl
                                          refine take_ (i := 8) (N := some 88) (v := ?_) (a' := ?_) #[true, true, true, true, true, true, true, true, true, true, false, false, false, false, false, false, false, false, false, false, false, false, false] rfl rfl (take_ofW HT_.out HW_.out (by kernel_rfl)) (fun _ _ _ h => h) (Or.inl ⟨by rfl, ?_⟩) hHeld ?_ ?_
                                          rotate_left
                                          · rintro w' ⟨s0, s1, s2⟩
                                            go_simp
                                            with_reducible rfl
                                          rotate_left
                                          · simp only [Act.put, List.setIfInBounds_toArray, List.set_cons_zero, List.set_cons_succ, i64_w, i32_w]
                                            rfl
                                          refine pure_ (i := 10) (N := some 90) (v := ?_) (a' := ?_) #[true, true, true, true, true, true, true, true, true, true, true, false, false, false, false, false, false, false, false, false, false, false, false] rfl rfl (any_of HT_.out (by kernel_rfl)) (fun _ _ _ h => h) (Or.inl ⟨by rfl, ?_⟩) ?_ ?_
                                          rotate_left
                                          · intro w'
                                            go_simp
                                            with_reducible rfl
                                          rotate_left
                                          · simp only [Act.put, List.setIfInBounds_toArray, List.set_cons_zero, List.set_cons_succ, i64_w, i32_w]
                                            rfl
                                          refine take_ (i := 11) (N := some 91) (v := ?_) (a' := ?_) #[true, true, true, true, true, true, true, true, true, true, true, true, false, false, false, false, false, false, false, false, false, false, false] rfl rfl (take_ofW HT_.out HW_.out (by kernel_rfl)) (fun _ _ _ h => h) (Or.inl ⟨by rfl, ?_⟩) hHeld ?_ ?_
                                          rotate_left
                                          · rintro w' ⟨s0, s1, s2⟩
                                            go_simp
                                            with_reducible rfl
                                          rotate_left
                                          · simp only [Act.put, List.setIfInBounds_toArray, List.set_cons_zero, List.set_cons_succ, i64_w, i32_w]
                                            rfl
                                          refine pure_ (i := 12) (N := some 92) (v := ?_) (a' := ?_) #[true, true, true, true, true, true, true, true, true, true, true, true, true, false, false, false, false, false, false, false, false, false, false] rfl rfl (any_of HT_.out (by kernel_rfl)) (fun _ _ _ h => h) (Or.inl ⟨by rfl, ?_⟩) ?_ ?_
                                          rotate_left
                                          · intro w'
                                            go_simp
                                            with_reducible rfl
                                          rotate_left
                                          · simp only [Act.put, List.setIfInBounds_toArray, List.set_cons_zero, List.set_cons_succ, i64_w, i32_w]
                                            rfl
                                          refine pure_ (i := 13) (N := some 93) (v := undef) (a' := ?_) #[true, true, true, true, true, true, true, true, true, true, true, true, true, true, false, false, false, false, false, false, false, false, false] rfl rfl (any_of HT_.out (by kernel_rfl)) (fun _ _ _ h => h) (Or.inr ⟨by rfl, rfl⟩) ?_ ?_
                                          rotate_left
                                          · simp only [Act.put, List.setIfInBounds_toArray, List.set_cons_zero, List.set_cons_succ, i64_w, i32_w]
                                            rfl
                                          refine pure_ (i := 14) (N := some 94) (v := undef) (a' := ?_) #[true, true, true, true, true, true, true, true, true, true, true, true, true, true, true, false, false, false, false, false, false, false, false] rfl rfl (any_of HT_.out (by kernel_rfl)) (fun _ _ _ h => h) (Or.inr ⟨by rfl, rfl⟩) ?_ ?_
                                          rotate_left
                                          · simp only [Act.put, List.setIfInBounds_toArray, List.set_cons_zero, List.set_cons_succ, i64_w, i32_w]
                                            rfl
                                          refine pure_ (i := 15) (N := some 95) (v := undef) (a' := ?_) #[true, true, true, true, true, true, true, true, true, true, true, true, true, true, true, true, false, false, false, false, false, false, false] rfl rfl (any_of HT_.out (by kernel_rfl)) (fun _ _ _ h => h) (Or.inr ⟨by rfl, rfl⟩) ?_ ?_
                                          rotate_left
                                          · simp only [Act.put, List.setIfInBounds_toArray, List.set_cons_zero, List.set_cons_succ, i64_w, i32_w]
                                            rfl
                                          refine pure_ (i := 16) (N := some 96) (v := undef) (a' := ?_) #[true, true, true, true, true, true, true, true, true, true, true, true, true, true, true, true, true, false, false, false, false, false, false] rfl rfl (any_of HT_.out (by kernel_rfl)) (fun _ _ _ h => h) (Or.inr ⟨by rfl, rfl⟩) ?_ ?_
                                          rotate_left
                                          · simp only [Act.put, List.setIfInBounds_toArray, List.set_cons_zero, List.set_cons_succ, i64_w, i32_w]
                                            rfl
                                          refine pure_ (i := 17) (N := some 97) (v := undef) (a' := ?_) #[true, true, true, true, true, true, true, true, true, true, true, true, true, true, true, true, true, true, false, false, false, false, false] rfl rfl (any_of HT_.out (by kernel_rfl)) (fun _ _ _ h => h) (Or.inr ⟨by rfl, rfl⟩) ?_ ?_
                                          rotate_left
                                          · simp only [Act.put, List.setIfInBounds_toArray, List.set_cons_zero, List.set_cons_succ, i64_w, i32_w]
                                            rfl
                                          refine pure_ (i := 18) (N := some 98) (v := undef) (a' := ?_) #[true, true, true, true, true, true, true, true, true, true, true, true, true, true, true, true, true, true, true, false, false, false, false] rfl rfl (any_of HT_.out (by kernel_rfl)) (fun _ _ _ h => h) (Or.inr ⟨by rfl, rfl⟩) ?_ ?_
                                          rotate_left
                                          · simp only [Act.put, List.setIfInBounds_toArray, List.set_cons_zero, List.set_cons_succ, i64_w, i32_w]
                                            rfl
                                          refine pure_ (i := 19) (N := some 99) (v := undef) (a' := ?_) #[true, true, true, true, true, true, true, true, true, true, true, true, true, true, true, true, true, true, true, true, false, false, false] rfl rfl (any_of HT_.out (by kernel_rfl)) (fun _ _ _ h => h) (Or.inr ⟨by rfl, rfl⟩) ?_ ?_
                                          rotate_left
                                          · simp only [Act.put, List.setIfInBounds_toArray, List.set_cons_zero, List.set_cons_succ, i64_w, i32_w]
                                            rfl
                                          refine pure_ (i := 20) (N := some 100) (v := ?_) (a' := ?_) #[true, true, true, true, true, true, true, true, true, true, true, true, true, true, true, true, true, true, true, true, true, false, false] rfl rfl (any_of HT_.out (by kernel_rfl)) (fun _ _ _ h => h) (Or.inl ⟨by rfl, ?_⟩) ?_ ?_
                                          rotate_left
                                          · intro w'
                                            go_simp
                                            with_reducible rfl
                                          rotate_left
                                          · simp only [Act.put, List.setIfInBounds_toArray, List.set_cons_zero, List.set_cons_succ, i64_w, i32_w]
                                            rfl
                                          refine pure_ (i := 21) (N := some 101) (v := ?_) (a' := ?_) #[true, true, true, true, true, true, true, true, true, true, true, true, true, true, true, true, true, true, true, true, true, true, false] rfl rfl (any_of HT_.out (by kernel_rfl)) (fun _ _ _ h => h) (Or.inl ⟨by rfl, ?_⟩) ?_ ?_
                                          rotate_left
                                          · intro w'
                                            go_simp
                                            with_reducible rfl
                                          rotate_left
                                          · simp only [Act.put, List.setIfInBounds_toArray, List.set_cons_zero, List.set_cons_succ, i64_w, i32_w]
                                            rfl
                                          refine last_ (i := 22) (N := none) #[true, true, true, true, true, true, true, true, true, true, true, true, true, true, true, true, true, true, true, true, true, true, true] rfl rfl (one_of HT_.out (by kernel_rfl)) (by decide) (fun K hK => ?_)
                                          refine skip_ (w1 := ?_) (by rfl) rfl ?_ ?_
                                          rotate_left
                                          · go_simp
                                            rfl
                                          refine hK.out _ _ ?_
                                          clear hK K
                                          refine done_ (done_of HT_.out (by kernel_rfl)) ?_
                                          try go_wp2
                                          go_roundg k4
                                          case measure => have := HK1.out; have := HK2.out; have := HK3.out; have := HK4.out; omega
                                          case rel => exact ⟨(y369), (wrap64 (x9_4 + 1)), (by first | rfl | (simp; done) | (simp [*]; done)), H', ⟨by have := HK1.out; have := HK2.out; have := HK3.out; have := HK4.out; omega⟩, ⟨by (with_reducible repeat (first | apply Kd.S_alloc | apply Kd.S_drewN | apply Kd.S_drew)); exact HQ41.out⟩, ⟨by repeat (first | (with_reducible first | exact HB.out | apply below_alloc | apply pw_below_drewN | apply below_drew1 | refine below_set ?_ GB38.out) | exact HB.out)⟩⟩
                                        · replace c37 := Bool.eq_false_iff.mpr c37
                                          subst c37
                                          have H1 : (if x7_2 < (x3_4.length : Int) then (if x9_4 < ((rd_L10 x3_4 x7_2).length : Int) then (replevinref06_Table.l4 k4 l0 (x3_4.set (x8_3 : Int).toNat ((rd_L10 x3_4 x8_3).set (x9_4 : Int).toNat (rdOf false (rd_L10 x3_4 x7_2) x9_4))) x7_2 x8_3 (wrap64 (x9_4 + 1))) else (none)) else (none)) = some r := by rw [if_neg (show ¬ (false = true) by decide)] at H; exact H
                                          clear H
                                          have H := H1
                                          clear H1
                                          by_cases c43 : x7_2 < (x3_4.length : Int)
                                          · rw [if_pos c43] at H
                                            have c43b0 : decide (x7_2 < (x3_4.length : Int)) = true := decide_eq_true c43
                                            clear c43
                                            by_cases c44 : x9_4 < ((rd_L10 x3_4 x7_2).length : Int)
                                            · rw [if_pos c44] at H
                                              have c44b0 : decide (x9_4 < ((rd_L10 x3_4 x7_2).length : Int)) = true := decide_eq_true c44
                                              clear c44
                                              obtain ⟨y372, hy372⟩ : ∃ y_ : List Bool, y_ = ((rd_L10 x3_4 x8_3).set (x9_4 : Int).toNat (rdOf false (rd_L10 x3_4 x7_2) x9_4)) := ⟨_, rfl⟩
                                              replace H : (replevinref06_Table.l4 k4 l0 (x3_4.set (x8_3 : Int).toNat y372) x7_2 x8_3 (wrap64 (x9_4 + 1))) = some r := by first | (rw [hy372]; with_reducible exact H) | (have H2_ := (Option.bind_some _ _).symm.trans H; rw [hy372]; with_reducible exact H2_) | (have H2_ := (Option.bind_some _ _).symm.trans H; with_reducible exact H2_) | with_reducible exact H | (rw [hy372]; exact H) | exact H
                                              have Ny372 := Aside0.mk hy372
                                              clear hy372
                                              obtain ⟨y374, hy374⟩ : ∃ y_ : List (List Bool), y_ = (x3_4.set (x8_3 : Int).toNat y372) := ⟨_, rfl⟩
                                              replace H : (replevinref06_Table.l4 k4 l0 y374 x7_2 x8_3 (wrap64 (x9_4 + 1))) = some r := by first | (rw [hy374]; with_reducible exact H) | (have H2_ := (Option.bind_some _ _).symm.trans H; rw [hy374]; with_reducible exact H2_) | (have H2_ := (Option.bind_some _ _).symm.trans H; with_reducible exact H2_) | with_reducible exact H | (rw [hy374]; exact H) | exact H
                                              have Ny374 := Aside0.mk hy374
                                              clear hy374
                                              have H' := Aside0.mk H
                                              clear H
                                              obtain ⟨Ao46, co46, eo46⟩ := Kd.S_slice HO_3.out
                                              subst eo46
                                              have p362 : 0 ≤ (x8_3 : Int) := of_decide_eq_true (by first | (with_reducible assumption) | assumption)
                                              have q362 : x8_3 < (x3_4.length : Int) := of_decide_eq_true (by first | (with_reducible assumption) | assumption)
                                              obtain ⟨ad362, A362_0, c362_0, e362, hx362_0, hl362_0, hi362_0⟩ := at_L10 (Kd.S_reads' HO_3.out).2.2 x8_3 p362 q362
                                              cases e362
                                              obtain ⟨ce362, hce362, hMe362, hcc362⟩ := Kd.S_get HO_3.out [] x8_3 p362 (by first | exact q362 | exact of_decide_eq_true (by first | (with_reducible assumption) | assumption) | (have e_ := (Kd.S_reads' HO_3.out).1; omega))
                                              obtain ⟨ve362_0, rfl, ge362_0⟩ := hMe362
                                              have hv362_0 := hcc362 0 _ rfl
                                              rw [Nat.add_zero, show ((Kd.slice 4 Kd.bool)).sz = 1 from rfl, Nat.mul_one] at hv362_0
                                              replace hv362_0 := Option.some.inj (hv362_0.symm.trans hx362_0)
                                              rw [hv362_0] at ge362_0
                                              have HL362_0 := Aside0.mk (show Kd.R Kd.bool 4 _ _ _ _ (rd_L10 x3_4 x8_3) from ge362_0)
                                              clear hv362_0 ge362_0
                                              have HX362_0 := Aside0.mk hx362_0
                                              clear hcc362 hce362
                                              have HR362_0 := Aside0.mk hi362_0
                                              have HC362_0 := Aside0.mk hl362_0
                                              clear hi362_0 hl362_0
                                              replace p362 := eq_true p362
                                              replace q362 := eq_true q362
                                              have p363 : 0 ≤ (x7_2 : Int) := of_decide_eq_true (by first | (with_reducible assumption) | assumption)
                                              have q363 : x7_2 < ((rd_L10 x3_4 x8_3).length : Int) := of_decide_eq_true (by first | (with_reducible assumption) | assumption)
                                              obtain ⟨ad363, e363, hx363_0⟩ := Kd.at_bool (by repeat (first | (with_reducible exact HR362_0.out) | (with_reducible refine Kd.C_alloc ?_ _) | (with_reducible refine Kd.C_drewN ?_ _) | (with_reducible refine Kd.C_drew ?_) | exact HR362_0.out)) x7_2 p363 q363
                                              (try rw [← Nbq32.out] at hx363_0)
                                              (try rw [← Nbq36.out] at hx363_0)
                                              cases e363
                                              replace p363 := eq_true p363
                                              replace q363 := eq_true q363
                                              try go_wp2
                                              have n0_ := Aside0.mk (Kd.S_drew HO_3.out)
                                              have n1_ := Aside0.mk (Kd.R_drew HL362_0.out)
                                              have n2_ := Aside0.mk (Kd.C_drew HR362_0.out)
                                              have n3_ := Aside0.mk (below_drew1 HB.out)
                                              clear HO_3
                                              clear HL362_0
                                              clear HR362_0
                                              clear HB
                                              have HO_3 := n0_
                                              have HL362_0 := n1_
                                              have HR362_0 := n2_
                                              have HB := n3_
                                              clear n0_ n1_ n2_ n3_
                                              have p364 : 0 ≤ (x8_3 : Int) := of_decide_eq_true (by first | (with_reducible assumption) | assumption)
                                              have q364 : x8_3 < (x3_4.length : Int) := of_decide_eq_true (by first | (with_reducible assumption) | assumption)
                                              obtain ⟨ad364, A364_0, c364_0, e364, hx364_0, hl364_0, hi364_0⟩ := at_L10 (Kd.S_reads' HO_3.out).2.2 x8_3 p364 q364
                                              obtain rfl : ad362 = ad364 := (by injection e364)
                                              obtain ⟨ce364, hce364, hMe364, hcc364⟩ := Kd.S_get HO_3.out [] x8_3 p364 (by first | exact q364 | exact of_decide_eq_true (by first | (with_reducible assumption) | assumption) | (have e_ := (Kd.S_reads' HO_3.out).1; omega))
                                              obtain ⟨ve364_0, rfl, ge364_0⟩ := hMe364
                                              have hv364_0 := hcc364 0 _ rfl
                                              rw [Nat.add_zero, show ((Kd.slice 4 Kd.bool)).sz = 1 from rfl, Nat.mul_one] at hv364_0
                                              replace hv364_0 := Option.some.inj (hv364_0.symm.trans hx364_0)
                                              rw [hv364_0] at ge364_0
                                              have HL364_0 := Aside0.mk (show Kd.R Kd.bool 4 _ _ _ _ (rd_L10 x3_4 x8_3) from ge364_0)
                                              clear hv364_0 ge364_0
                                              have HX364_0 := Aside0.mk hx364_0
                                              clear hcc364 hce364
                                              have HR364_0 := Aside0.mk hi364_0
                                              have HC364_0 := Aside0.mk hl364_0
                                              clear hi364_0 hl364_0
                                              replace p364 := eq_true p364
                                              replace q364 := eq_true q364
                                              have p365 : 0 ≤ (x8_3 : Int) := of_decide_eq_true (by first | (with_reducible assumption) | assumption)
                                              have q365 : x8_3 < (x3_4.length : Int) := of_decide_eq_true (by first | (with_reducible assumption) | assumption)
                                              obtain ⟨ad365, A365_0, c365_0, e365, hx365_0, hl365_0, hi365_0⟩ := at_L10 (Kd.S_reads' HO_3.out).2.2 x8_3 p365 q365
                                              obtain rfl : ad362 = ad365 := (by injection e365)
                                              obtain ⟨ce365, hce365, hMe365, hcc365⟩ := Kd.S_get HO_3.out [] x8_3 p365 (by first | exact q365 | exact of_decide_eq_true (by first | (with_reducible assumption) | assumption) | (have e_ := (Kd.S_reads' HO_3.out).1; omega))
                                              obtain ⟨ve365_0, rfl, ge365_0⟩ := hMe365
                                              have hv365_0 := hcc365 0 _ rfl
                                              rw [Nat.add_zero, show ((Kd.slice 4 Kd.bool)).sz = 1 from rfl, Nat.mul_one] at hv365_0
                                              replace hv365_0 := Option.some.inj (hv365_0.symm.trans hx365_0)
                                              rw [hv365_0] at ge365_0
                                              have HL365_0 := Aside0.mk (show Kd.R Kd.bool 4 _ _ _ _ (rd_L10 x3_4 x8_3) from ge365_0)
                                              clear hv365_0 ge365_0
                                              have HX365_0 := Aside0.mk hx365_0
                                              clear hcc365 hce365
                                              have HR365_0 := Aside0.mk hi365_0
                                              have HC365_0 := Aside0.mk hl365_0
                                              clear hi365_0 hl365_0
                                              replace p365 := eq_true p365
                                              replace q365 := eq_true q365
                                              have ea_ := Option.some.inj (hx364_0.symm.trans hx365_0)
                                              injection ea_ with ea_ en_ ec_
                                              subst ea_
                                              subst ec_
                                              clear en_
                                              have p366 : 0 ≤ (x9_4 : Int) := of_decide_eq_true (by first | (with_reducible assumption) | assumption)
                                              have q366 : x9_4 < ((rd_L10 x3_4 x8_3).length : Int) := of_decide_eq_true (by first | (with_reducible assumption) | assumption)
                                              obtain ⟨ad366, e366, hx366_0⟩ := Kd.at_bool (by repeat (first | (with_reducible exact HR365_0.out) | (with_reducible refine Kd.C_alloc ?_ _) | (with_reducible refine Kd.C_drewN ?_ _) | (with_reducible refine Kd.C_drew ?_) | exact HR365_0.out)) x9_4 p366 q366
                                              (try rw [← Nbq32.out] at hx366_0)
                                              (try rw [← Nbq36.out] at hx366_0)
                                              cases e366
                                              replace p366 := eq_true p366
                                              replace q366 := eq_true q366
                                              have p370 : 0 ≤ (x7_2 : Int) := of_decide_eq_true (by first | (with_reducible assumption) | assumption)
                                              have q370 : x7_2 < (x3_4.length : Int) := of_decide_eq_true (by first | (with_reducible assumption) | assumption)
                                              obtain ⟨ad370, A370_0, c370_0, e370, hx370_0, hl370_0, hi370_0⟩ := at_L10 (Kd.S_reads' HO_3.out).2.2 x7_2 p370 q370
                                              obtain rfl : ad362 = ad370 := (by injection e370)
                                              obtain ⟨ce370, hce370, hMe370, hcc370⟩ := Kd.S_get HO_3.out [] x7_2 p370 (by first | exact q370 | exact of_decide_eq_true (by first | (with_reducible assumption) | assumption) | (have e_ := (Kd.S_reads' HO_3.out).1; omega))
                                              obtain ⟨ve370_0, rfl, ge370_0⟩ := hMe370
                                              have hv370_0 := hcc370 0 _ rfl
                                              rw [Nat.add_zero, show ((Kd.slice 4 Kd.bool)).sz = 1 from rfl, Nat.mul_one] at hv370_0
                                              replace hv370_0 := Option.some.inj (hv370_0.symm.trans hx370_0)
                                              rw [hv370_0] at ge370_0
                                              have HL370_0 := Aside0.mk (show Kd.R Kd.bool 4 _ _ _ _ (rd_L10 x3_4 x7_2) from ge370_0)
                                              clear hv370_0 ge370_0
                                              have HX370_0 := Aside0.mk hx370_0
                                              clear hcc370 hce370
                                              have HR370_0 := Aside0.mk hi370_0
                                              have HC370_0 := Aside0.mk hl370_0
                                              clear hi370_0 hl370_0
                                              replace p370 := eq_true p370
                                              replace q370 := eq_true q370
                                              have p371 : 0 ≤ (x9_4 : Int) := of_decide_eq_true (by first | (with_reducible assumption) | assumption)
                                              have q371 : x9_4 < ((rd_L10 x3_4 x7_2).length : Int) := of_decide_eq_true (by first | (with_reducible assumption) | assumption)
                                              obtain ⟨ad371, e371, hx371_0⟩ := Kd.at_bool (by repeat (first | (with_reducible exact HR370_0.out) | (with_reducible refine Kd.C_alloc ?_ _) | (with_reducible refine Kd.C_drewN ?_ _) | (with_reducible refine Kd.C_drew ?_) | exact HR370_0.out)) x9_4 p371 q371
                                              (try rw [← Nbq32.out] at hx371_0)
                                              (try rw [← Nbq36.out] at hx371_0)
                                              cases e371
                                              replace p371 := eq_true p371
                                              replace q371 := eq_true q371
                                              have p45 : 0 ≤ (x9_4 : Int) := of_decide_eq_true (by first | (with_reducible assumption) | assumption)
                                              have q45 : (x9_4 : Int) < (((rd_L10 x3_4 x8_3).length : Int) : Int) := of_decide_eq_true (by first | (with_reducible assumption) | assumption)
                                              obtain ⟨go45, co45, eo45, gb45, gl45, cl45, HG45⟩ := Kd.R_form HL364_0.out (by omega)
                                              (first | cases eo45 | (injection eo45 with ea_ en_ ec_; (first | subst ea_ | (injection ea_ with ea_; subst ea_)); subst ec_; clear en_))
                                              have GB45 := Aside0.mk gb45
                                              have GG45 := Aside0.mk HG45
                                              clear gb45 gl45 HG45
                                              (first | simp only [add_plain] at hx366_0 | skip)
                                              obtain ⟨hx45_0, hf45_0⟩ := Kd.R_celln false HL364_0.out (x9_4 : Int) p45 q45
                                              replace p45 := eq_true p45
                                              replace q45 := eq_true q45
                                              have hq48 : (x8_3 : Int) < (x3_4.length : Int) := (by have h_ : (x8_3 : Int) < ((x3_4.length : Int) : Int) := of_decide_eq_true (by first | (with_reducible assumption) | assumption); first | exact h_ | (have e_ := (Kd.S_reads' HO_3.out).1; omega) | simpa only [List.length_set, List.length_set] using h_)
                                              obtain ⟨oki48, ce48, hcl48, hM48, hcc48, hok48, hbk48⟩ := Kd.S_borrow HO_3.out [] (x8_3 : Int) (of_decide_eq_true (by first | (with_reducible assumption) | assumption)) hq48
                                              obtain ⟨ve48_0, rfl, ge48_0⟩ := hM48
                                              have hv48 := hcc48 0 _ rfl
                                              rw [Nat.add_zero, show ((Kd.slice 4 Kd.bool)).sz = 1 from rfl, Nat.mul_one] at hv48
                                              replace hv48 := Option.some.inj (hv48.symm.trans HX364_0.out)
                                              subst hv48
                                              clear hcc48 hcl48
                                              replace ge48_0 := (show Kd.R Kd.bool 4 _ _ _ _ (rd_L10 x3_4 x8_3) from ge48_0)
                                              have HP48 := Kd.R_putg ge48_0 (x9_4 : Int) (rdOf false (rd_L10 x3_4 x7_2) x9_4)
                                              rw [← Ny372.out] at HP48
                                              have HS48 := hbk48 HP48.2 (fun k_ e_ => by injection e_ with e_; subst e_; exact ge48_0.1 _ rfl) (x' := y372) (Kd.M_row HP48.1)
                                              rw [← Ny374.out] at HS48
                                              have HQ48 := Aside0.mk HS48
                                              clear HP48 HS48 hbk48 hok48
                                              refine start_ (n := 23) (S := fun w' => w'.cell? (ad362.add (x8_3).toNat) = some (.slice (some ⟨go45, 0, none⟩) (rd_L10 x3_4 x8_3).length c364_0) ∧ w'.cell? (ad362.add (x8_3).toNat) = some (.slice (some ⟨go45, 0, none⟩) (rd_L10 x3_4 x8_3).length c364_0) ∧ w'.cell? ⟨go45, (x9_4).toNat, none⟩ = some (.bool false) ∧ w'.cell? (ad362.add (x7_2).toNat) = some (.slice (some ad371) (rd_L10 x3_4 x7_2).length c370_0) ∧ w'.cell? (ad371.add (x9_4).toNat) = some (.bool (rdOf false (rd_L10 x3_4 x7_2) x9_4))) (ds := [22]) #[false, false, false, false, false, false, false, false, false, false, false, false, false, false, false, false, false, false, false, false, false, false, false] (by kernel_rfl) rfl rfl ⟨hx364_0, hx365_0, hx366_0, hx370_0, hx371_0⟩ (fun hHeld => ?_); refine with_tabW replevinref06_Table.tab21 replevinref06_Table.bits21 (fun HT_ HW_ => ?_)
                                              generalize wr.drew = w47 at HO_3 HL362_0 HR362_0 HB GG45 HL364_0 HL365_0 HL370_0 HQ48 HR364_0 HR365_0 HR370_0 HX364_0 HX365_0 HX370_0 hf45_0 hx364_0 hx365_0 hx366_0 hx370_0 hx371_0 hx45_0 hHeld ⊢
                                              refine pure_ (i := 0) (N := some 80) (v := ?_) (a' := ?_) #[true, false, false, false, false, false, false, false, false, false, false, false, false, false, false, false, false, false, false, false, false, false, false] rfl rfl (any_of HT_.out (by kernel_rfl)) (fun _ _ _ h => h) (Or.inl ⟨by rfl, ?_⟩) ?_ ?_
                                              rotate_left
                                              · intro w'
                                                go_simp
                                                with_reducible rfl
                                              rotate_left
                                              · simp only [Act.put, List.setIfInBounds_toArray, List.set_cons_zero, List.set_cons_succ, i64_w, i32_w]
                                                rfl
                                              refine pure_ (i := 1) (N := some 81) (v := ?_) (a' := ?_) #[true, true, false, false, false, false, false, false, false, false, false, false, false, false, false, false, false, false, false, false, false, false, false] rfl rfl (any_of HT_.out (by kernel_rfl)) (fun _ _ _ h => h) (Or.inl ⟨by rfl, ?_⟩) ?_ ?_
                                              rotate_left
                                              · intro w'
                                                go_simp
                                                with_reducible rfl
                                              rotate_left
                                              · simp only [Act.put, List.setIfInBounds_toArray, List.set_cons_zero, List.set_cons_succ, i64_w, i32_w]
                                                rfl
                                              refine pure_ (i := 2) (N := some 82) (v := ?_) (a' := ?_) #[true, true, true, false, false, false, false, false, false, false, false, false, false, false, false, false, false, false, false, false, false, false, false] rfl rfl (any_of HT_.out (by kernel_rfl)) (fun _ _ _ h => h) (Or.inl ⟨by rfl, ?_⟩) ?_ ?_
                                              rotate_left
                                              · intro w'
                                                go_simp
                                                with_reducible rfl
                                              rotate_left
                                              · simp only [Act.put, List.setIfInBounds_toArray, List.set_cons_zero, List.set_cons_succ, i64_w, i32_w]
                                                rfl
                                              refine pure_ (i := 4) (N := some 84) (v := ?_) (a' := ?_) #[true, true, true, false, true, false, false, false, false, false, false, false, false, false, false, false, false, false, false, false, false, false, false] rfl rfl (any_of HT_.out (by kernel_rfl)) (fun _ _ _ h => h) (Or.inl ⟨by rfl, ?_⟩) ?_ ?_
                                              rotate_left
                                              · intro w'
                                                go_simp
                                                with_reducible rfl
                                              rotate_left
                                              · simp only [Act.put, List.setIfInBounds_toArray, List.set_cons_zero, List.set_cons_succ, i64_w, i32_w]
                                                rfl
                                              refine pure_ (i := 5) (N := some 85) (v := ?_) (a' := ?_) #[true, true, true, false, true, true, false, false, false, false, false, false, false, false, false, false, false, false, false, false, false, false, false] rfl rfl (any_of HT_.out (by kernel_rfl)) (fun _ _ _ h => h) (Or.inl ⟨by rfl, ?_⟩) ?_ ?_
                                              rotate_left
                                              · intro w'
                                                go_simp
                                                with_reducible rfl
                                              rotate_left
                                              · simp only [Act.put, List.setIfInBounds_toArray, List.set_cons_zero, List.set_cons_succ, i64_w, i32_w]
                                                rfl
                                              refine pure_ (i := 6) (N := some 86) (v := ?_) (a' := ?_) #[true, true, true, false, true, true, true, false, false, false, false, false, false, false, false, false, false, false, false, false, false, false, false] rfl rfl (any_of HT_.out (by kernel_rfl)) (fun _ _ _ h => h) (Or.inl ⟨by rfl, ?_⟩) ?_ ?_
                                              rotate_left
                                              · intro w'
                                                go_simp
                                                with_reducible rfl
                                              rotate_left
                                              · simp only [Act.put, List.setIfInBounds_toArray, List.set_cons_zero, List.set_cons_succ, i64_w, i32_w]
                                                rfl
                                              refine pure_ (i := 7) (N := some 87) (v := ?_) (a' := ?_) #[true, true, true, false, true, true, true, true, false, false, false, false, false, false, false, false, false, false, false, false, false, false, false] rfl rfl (any_of HT_.out (by kernel_rfl)) (fun _ _ _ h => h) (Or.inl ⟨by rfl, ?_⟩) ?_ ?_
                                              rotate_left
                                              · intro w'
                                                go_simp
                                                with_reducible rfl
                                              rotate_left
                                              · simp only [Act.put, List.setIfInBounds_toArray, List.set_cons_zero, List.set_cons_succ, i64_w, i32_w]
                                                rfl
                                              refine pure_ (i := 9) (N := some 89) (v := ?_) (a' := ?_) #[true, true, true, false, true, true, true, true, false, true, false, false, false, false, false, false, false, false, false, false, false, false, false] rfl rfl (any_of HT_.out (by kernel_rfl)) (fun _ _ _ h => h) (Or.inl ⟨by rfl, ?_⟩) ?_ ?_
                                              rotate_left
                                              · intro w'
                                                go_simp
                                                with_reducible rfl
                                              rotate_left
                                              · simp only [Act.put, List.setIfInBounds_toArray, List.set_cons_zero, List.set_cons_succ, i64_w, i32_w]
                                                rfl
                                              refine take_ (i := 3) (N := some 83) (v := ?_) (a' := ?_) #[true, true, true, true, true, true, true, true, false, true, false, false, false, false, false, false, false, false, false, false, false, false, false] rfl rfl (take_ofW HT_.out HW_.out (by kernel_rfl)) (fun _ _ _ h => h) (Or.inl ⟨by rfl, ?_⟩) hHeld ?_ ?_
                                              rotate_left
                                              · rintro w' ⟨s0, s1, s2, s3, s4⟩
                                                go_simp
                                                with_reducible rfl
                                              rotate_left
                                              · simp only [Act.put, List.setIfInBounds_toArray, List.set_cons_zero, List.set_cons_succ, i64_w, i32_w]
                                                rfl
                                              refine take_ (i := 8) (N := some 88) (v := ?_) (a' := ?_) #[true, true, true, true, true, true, true, true, true, true, false, false, false, false, false, false, false, false, false, false, false, false, false] rfl rfl (take_ofW HT_.out HW_.out (by kernel_rfl)) (fun _ _ _ h => h) (Or.inl ⟨by rfl, ?_⟩) hHeld ?_ ?_
                                              rotate_left
                                              · rintro w' ⟨s0, s1, s2, s3, s4⟩
                                                go_simp
                                                with_reducible rfl
                                              rotate_left
                                              · simp only [Act.put, List.setIfInBounds_toArray, List.set_cons_zero, List.set_cons_succ, i64_w, i32_w]
                                                rfl
                                              refine pure_ (i := 10) (N := some 90) (v := ?_) (a' := ?_) #[true, true, true, true, true, true, true, true, true, true, true, false, false, false, false, false, false, false, false, false, false, false, false] rfl rfl (any_of HT_.out (by kernel_rfl)) (fun _ _ _ h => h) (Or.inl ⟨by rfl, ?_⟩) ?_ ?_
                                              rotate_left
                                              · intro w'
                                                go_simp
                                                with_reducible rfl
                                              rotate_left
                                              · simp only [Act.put, List.setIfInBounds_toArray, List.set_cons_zero, List.set_cons_succ, i64_w, i32_w]
                                                rfl
                                              refine take_ (i := 11) (N := some 91) (v := ?_) (a' := ?_) #[true, true, true, true, true, true, true, true, true, true, true, true, false, false, false, false, false, false, false, false, false, false, false] rfl rfl (take_ofW HT_.out HW_.out (by kernel_rfl)) (fun _ _ _ h => h) (Or.inl ⟨by rfl, ?_⟩) hHeld ?_ ?_
                                              rotate_left
                                              · rintro w' ⟨s0, s1, s2, s3, s4⟩
                                                go_simp
                                                with_reducible rfl
                                              rotate_left
                                              · simp only [Act.put, List.setIfInBounds_toArray, List.set_cons_zero, List.set_cons_succ, i64_w, i32_w]
                                                rfl
                                              refine pure_ (i := 12) (N := some 92) (v := ?_) (a' := ?_) #[true, true, true, true, true, true, true, true, true, true, true, true, true, false, false, false, false, false, false, false, false, false, false] rfl rfl (any_of HT_.out (by kernel_rfl)) (fun _ _ _ h => h) (Or.inl ⟨by rfl, ?_⟩) ?_ ?_
                                              rotate_left
                                              · intro w'
                                                go_simp
                                                with_reducible rfl
                                              rotate_left
                                              · simp only [Act.put, List.setIfInBounds_toArray, List.set_cons_zero, List.set_cons_succ, i64_w, i32_w]
                                                rfl
                                              refine pure_ (i := 13) (N := some 93) (v := ?_) (a' := ?_) #[true, true, true, true, true, true, true, true, true, true, true, true, true, true, false, false, false, false, false, false, false, false, false] rfl rfl (any_of HT_.out (by kernel_rfl)) (fun _ _ _ h => h) (Or.inl ⟨by rfl, ?_⟩) ?_ ?_
                                              rotate_left
                                              · intro w'
                                                go_simp
                                                with_reducible rfl
                                              rotate_left
                                              · simp only [Act.put, List.setIfInBounds_toArray, List.set_cons_zero, List.set_cons_succ, i64_w, i32_w]
                                                rfl
                                              refine pure_ (i := 14) (N := some 94) (v := ?_) (a' := ?_) #[true, true, true, true, true, true, true, true, true, true, true, true, true, true, true, false, false, false, false, false, false, false, false] rfl rfl (any_of HT_.out (by kernel_rfl)) (fun _ _ _ h => h) (Or.inl ⟨by rfl, ?_⟩) ?_ ?_
                                              rotate_left
                                              · intro w'
                                                go_simp
                                                with_reducible rfl
                                              rotate_left
                                              · simp only [Act.put, List.setIfInBounds_toArray, List.set_cons_zero, List.set_cons_succ, i64_w, i32_w]
                                                rfl
                                              refine pure_ (i := 15) (N := some 95) (v := ?_) (a' := ?_) #[true, true, true, true, true, true, true, true, true, true, true, true, true, true, true, true, false, false, false, false, false, false, false] rfl rfl (any_of HT_.out (by kernel_rfl)) (fun _ _ _ h => h) (Or.inl ⟨by rfl, ?_⟩) ?_ ?_
                                              rotate_left
                                              · intro w'
                                                go_simp
                                                with_reducible rfl
                                              rotate_left
                                              · simp only [Act.put, List.setIfInBounds_toArray, List.set_cons_zero, List.set_cons_succ, i64_w, i32_w]
                                                rfl
                                              refine pure_ (i := 17) (N := some 97) (v := ?_) (a' := ?_) #[true, true, true, true, true, true, true, true, true, true, true, true, true, true, true, true, false, true, false, false, false, false, false] rfl rfl (any_of HT_.out (by kernel_rfl)) (fun _ _ _ h => h) (Or.inl ⟨by rfl, ?_⟩) ?_ ?_
                                              rotate_left
                                              · intro w'
                                                go_simp
                                                with_reducible rfl
                                              rotate_left
                                              · simp only [Act.put, List.setIfInBounds_toArray, List.set_cons_zero, List.set_cons_succ, i64_w, i32_w]
                                                rfl
                                              refine take_ (i := 16) (N := some 96) (v := ?_) (a' := ?_) #[true, true, true, true, true, true, true, true, true, true, true, true, true, true, true, true, true, true, false, false, false, false, false] rfl rfl (take_ofW HT_.out HW_.out (by kernel_rfl)) (fun _ _ _ h => h) (Or.inl ⟨by rfl, ?_⟩) hHeld ?_ ?_
                                              rotate_left
                                              · rintro w' ⟨s0, s1, s2, s3, s4⟩
                                                go_simp
                                                with_reducible rfl
                                              rotate_left
                                              · simp only [Act.put, List.setIfInBounds_toArray, List.set_cons_zero, List.set_cons_succ, i64_w, i32_w]
                                                rfl
                                              refine pure_ (i := 18) (N := some 98) (v := ?_) (a' := ?_) #[true, true, true, true, true, true, true, true, true, true, true, true, true, true, true, true, true, true, true, false, false, false, false] rfl rfl (any_of HT_.out (by kernel_rfl)) (fun _ _ _ h => h) (Or.inl ⟨by rfl, ?_⟩) ?_ ?_
                                              rotate_left
                                              · intro w'
                                                go_simp
                                                with_reducible rfl
                                              rotate_left
                                              · simp only [Act.put, List.setIfInBounds_toArray, List.set_cons_zero, List.set_cons_succ, i64_w, i32_w]
                                                rfl
                                              refine take_ (i := 19) (N := some 99) (v := ?_) (a' := ?_) #[true, true, true, true, true, true, true, true, true, true, true, true, true, true, true, true, true, true, true, true, false, false, false] rfl rfl (take_ofW HT_.out HW_.out (by kernel_rfl)) (fun _ _ _ h => h) (Or.inl ⟨by rfl, ?_⟩) hHeld ?_ ?_
                                              rotate_left
                                              · rintro w' ⟨s0, s1, s2, s3, s4⟩
                                                go_simp
                                                with_reducible rfl
                                              rotate_left
                                              · simp only [Act.put, List.setIfInBounds_toArray, List.set_cons_zero, List.set_cons_succ, i64_w, i32_w]
                                                rfl
                                              refine pure_ (i := 20) (N := some 100) (v := ?_) (a' := ?_) #[true, true, true, true, true, true, true, true, true, true, true, true, true, true, true, true, true, true, true, true, true, false, false] rfl rfl (any_of HT_.out (by kernel_rfl)) (fun _ _ _ h => h) (Or.inl ⟨by rfl, ?_⟩) ?_ ?_
                                              rotate_left
                                              · intro w'
                                                go_simp
                                                with_reducible rfl
                                              rotate_left
                                              · simp only [Act.put, List.setIfInBounds_toArray, List.set_cons_zero, List.set_cons_succ, i64_w, i32_w]
                                                rfl
                                              refine pure_ (i := 21) (N := some 101) (v := ?_) (a' := ?_) #[true, true, true, true, true, true, true, true, true, true, true, true, true, true, true, true, true, true, true, true, true, true, false] rfl rfl (any_of HT_.out (by kernel_rfl)) (fun _ _ _ h => h) (Or.inl ⟨by rfl, ?_⟩) ?_ ?_
                                              rotate_left
                                              · intro w'
                                                go_simp
                                                with_reducible rfl
                                              rotate_left
                                              · simp only [Act.put, List.setIfInBounds_toArray, List.set_cons_zero, List.set_cons_succ, i64_w, i32_w]
                                                rfl
                                              refine last_ (i := 22) (N := none) #[true, true, true, true, true, true, true, true, true, true, true, true, true, true, true, true, true, true, true, true, true, true, true] rfl rfl (one_of HT_.out (by kernel_rfl)) (by decide) (fun K hK => ?_)
                                              refine skip_ (w1 := ?_) (by rfl) rfl ?_ ?_
                                              rotate_left
                                              · go_simp
                                                rfl
                                              refine hK.out _ _ ?_
                                              clear hK K
                                              refine done_ (done_of HT_.out (by kernel_rfl)) ?_
                                              try go_wp2
                                              go_roundg k4
                                              case measure => have := HK1.out; have := HK2.out; have := HK3.out; have := HK4.out; omega
                                              case rel => exact ⟨(y374), (wrap64 (x9_4 + 1)), (by first | rfl | (simp; done) | (simp [*]; done)), H', ⟨by have := HK1.out; have := HK2.out; have := HK3.out; have := HK4.out; omega⟩, ⟨by (with_reducible repeat (first | apply Kd.S_alloc | apply Kd.S_drewN | apply Kd.S_drew)); exact HQ48.out⟩, ⟨by repeat (first | (with_reducible first | exact HB.out | apply below_alloc | apply pw_below_drewN | apply below_drew1 | refine below_set ?_ GB45.out) | exact HB.out)⟩⟩
                                            · rw [if_neg c44] at H
                                              exact absurd H (by simp)
                                          · rw [if_neg c43] at H
                                            exact absurd H (by simp)
                                      · rw [if_neg c35] at H
                                        exact absurd H (by simp)
                                    · rw [if_neg c34] at H
                                      exact absurd H (by simp)
                                  · replace c33 := Bool.eq_false_iff.mpr c33
                                    subst c33
                                    have H1 : (replevinref06_Table.l3 k4 l0 x3_4 x7_2 (wrap64 (x8_3 + 1))) = some r := by rw [if_neg (show ¬ (false = true) by decide)] at H; exact H
                                    clear H
                                    have H := H1
                                    clear H1
                                    have H' := Aside0.mk H
                                    clear H
                                    obtain ⟨Ao50, co50, eo50⟩ := Kd.S_slice HO_3.out
                                    subst eo50
                                    have p362 : 0 ≤ (x8_3 : Int) := of_decide_eq_true (by first | (with_reducible assumption) | assumption)
                                    have q362 : x8_3 < (x3_4.length : Int) := of_decide_eq_true (by first | (with_reducible assumption) | assumption)
                                    obtain ⟨ad362, A362_0, c362_0, e362, hx362_0, hl362_0, hi362_0⟩ := at_L10 (Kd.S_reads' HO_3.out).2.2 x8_3 p362 q362
                                    cases e362
                                    obtain ⟨ce362, hce362, hMe362, hcc362⟩ := Kd.S_get HO_3.out [] x8_3 p362 (by first | exact q362 | exact of_decide_eq_true (by first | (with_reducible assumption) | assumption) | (have e_ := (Kd.S_reads' HO_3.out).1; omega))
                                    obtain ⟨ve362_0, rfl, ge362_0⟩ := hMe362
                                    have hv362_0 := hcc362 0 _ rfl
                                    rw [Nat.add_zero, show ((Kd.slice 4 Kd.bool)).sz = 1 from rfl, Nat.mul_one] at hv362_0
                                    replace hv362_0 := Option.some.inj (hv362_0.symm.trans hx362_0)
                                    rw [hv362_0] at ge362_0
                                    have HL362_0 := Aside0.mk (show Kd.R Kd.bool 4 _ _ _ _ (rd_L10 x3_4 x8_3) from ge362_0)
                                    clear hv362_0 ge362_0
                                    have HX362_0 := Aside0.mk hx362_0
                                    clear hcc362 hce362
                                    have HR362_0 := Aside0.mk hi362_0
                                    have HC362_0 := Aside0.mk hl362_0
                                    clear hi362_0 hl362_0
                                    replace p362 := eq_true p362
                                    replace q362 := eq_true q362
                                    have p363 : 0 ≤ (x7_2 : Int) := of_decide_eq_true (by first | (with_reducible assumption) | assumption)
                                    have q363 : x7_2 < ((rd_L10 x3_4 x8_3).length : Int) := of_decide_eq_true (by first | (with_reducible assumption) | assumption)
                                    obtain ⟨ad363, e363, hx363_0⟩ := Kd.at_bool (by repeat (first | (with_reducible exact HR362_0.out) | (with_reducible refine Kd.C_alloc ?_ _) | (with_reducible refine Kd.C_drewN ?_ _) | (with_reducible refine Kd.C_drew ?_) | exact HR362_0.out)) x7_2 p363 q363
                                    (try rw [← Nbq32.out] at hx363_0)
                                    cases e363
                                    replace p363 := eq_true p363
                                    replace q363 := eq_true q363
                                    go_wp2
                                    go_roundg k4
                                    case measure => have := HK1.out; have := HK2.out; have := HK3.out; have := HK4.out; omega
                                    case rel => exact ⟨(x3_4), (wrap64 (x8_3 + 1)), (by first | rfl | (simp; done) | (simp [*]; done)), H', ⟨by have := HK1.out; have := HK2.out; have := HK3.out; have := HK4.out; omega⟩, ⟨by (with_reducible repeat (first | apply Kd.S_alloc | apply Kd.S_drewN | apply Kd.S_drew)); exact HO_3.out⟩, ⟨by repeat (first | (with_reducible first | exact HB.out | apply below_alloc | apply pw_below_drewN | apply below_drew1) | exact HB.out)⟩⟩
                                · rw [if_neg c31] at H
                                  exact absurd H (by simp)
                              · rw [if_neg c30] at H
                                exact absurd H (by simp)
                            · rw [if_neg c29] at H
                              exact absurd H (by simp)
                          · rw [if_neg c28] at H
                            exact absurd H (by simp)
                        · rw [if_neg c27] at H
                          have c27b0 : decide (x9_4 < (l0.length : Int)) = false := decide_eq_false c27
                          clear c27
                          have H' := Aside0.mk H
                          clear H
                          go_wp2
                          go_roundg k4
                          case measure => have := HK1.out; have := HK2.out; have := HK3.out; have := HK4.out; omega
                          case rel => exact ⟨(x3_4), (wrap64 (x8_3 + 1)), (by first | rfl | (simp; done) | (simp [*]; done)), H', ⟨by have := HK1.out; have := HK2.out; have := HK3.out; have := HK4.out; omega⟩, ⟨by (with_reducible repeat (first | apply Kd.S_alloc | apply Kd.S_drewN | apply Kd.S_drew)); exact HO_3.out⟩, ⟨by repeat (first | (with_reducible first | exact HB.out | apply below_alloc | apply pw_below_drewN | apply below_drew1) | exact HB.out)⟩⟩
                  · rw [if_neg c26] at H
                    have c26b0 : decide (x8_3 < (l0.length : Int)) = false := decide_eq_false c26
                    clear c26
                    have H' := Aside0.mk H
                    clear H
                    go_wp2
                    go_roundg k3
                    case measure => have := HK1.out; have := HK2.out; have := HK3.out; omega
                    case rel => exact ⟨(x3_3), (wrap64 (x7_2 + 1)), (by first | rfl | (simp; done) | (simp [*]; done)), H', ⟨by have := HK1.out; have := HK2.out; have := HK3.out; omega⟩, ⟨by (with_reducible repeat (first | apply Kd.S_alloc | apply Kd.S_drewN | apply Kd.S_drew)); exact HO_3.out⟩, ⟨by repeat (first | (with_reducible first | exact HB.out | apply below_alloc | apply pw_below_drewN | apply below_drew1) | exact HB.out)⟩⟩
            · rw [if_neg c25] at H
              have c25b0 : decide (x7_2 < (l0.length : Int)) = false := decide_eq_false c25
              clear c25
              obtain rfl := Option.some.inj H
              go_wp2
              go_ret
              exact ⟨_, by first | rfl | (simp [errW_none, errW_some] <;> rfl) | (simp [*, errW_none, errW_some] <;> rfl), by (with_reducible repeat (first | apply Kd.S_alloc | apply Kd.S_drewN | apply Kd.S_drew)); exact HO_3.out, by repeat (first | (with_reducible first | exact HB.out | apply below_alloc | apply pw_below_drewN | apply below_drew1) | exact HB.out)⟩

end Go.Proofs.Ytofgaeiihclokaa.P
