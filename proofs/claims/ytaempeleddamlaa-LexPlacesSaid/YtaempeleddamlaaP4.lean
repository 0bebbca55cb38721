-- PRINTED by print.py (a twelfth state) out of the translation. Not trusted: Lean checks it.
import Derived.Test.YtaempeleddamlaaP0
import Derived.Test.YtaempeleddamlaaLexZ
namespace Go.Proofs.Ytaempeleddamlaa.P
open Go.RowKit Go.Proofs.YtaempeleddamlaaW.PrintWords Go.Proofs.YtaempeleddamlaaW.PrintLast Go.Proofs.YtaempeleddamlaaW.PrintMore
attribute [local go_sem] max2_int min2_int max_two min_two max_three min_three max_four min_four   -- for this text's walks alone
set_option linter.unusedVariables false
set_option linter.unusedSimpArgs false

/-! ### replevinlaw01_LexPlaces: function 5 -/
mutual
def replevinlaw01_LexPlaces.l0 : Nat → ByteArray → Int → List (S35) → Int → Int → Option (Bool)
  | 0, _, _, _, _, _ => none
  | k + 1, x0, x6, x30, x31, x32 => if x32 < x31 then (if 0 ≤ x32 then (if x32 < (x30.length : Int) then (if ((rd_T35 x30 x32).f3) < x6 then (replevinlaw01_LexPlaces.j1 k x0 x6 x30 x31 x32 true ((rd_T35 x30 x32).f0) ((rd_T35 x30 x32).f1) ((rd_T35 x30 x32).f2) ((rd_T35 x30 x32).f3)) else (if (wrap64 (((rd_T35 x30 x32).f3) + (((rd_T35 x30 x32).f1).size : Int))) > (x0.size : Int) then (replevinlaw01_LexPlaces.j1 k x0 x6 x30 x31 x32 true ((rd_T35 x30 x32).f0) ((rd_T35 x30 x32).f1) ((rd_T35 x30 x32).f2) ((rd_T35 x30 x32).f3)) else (if 0 ≤ ((rd_T35 x30 x32).f3) then (if ((rd_T35 x30 x32).f3) ≤ (wrap64 (((rd_T35 x30 x32).f3) + (((rd_T35 x30 x32).f1).size : Int))) then (if (wrap64 (((rd_T35 x30 x32).f3) + (((rd_T35 x30 x32).f1).size : Int))) ≤ (x0.size : Int) then (if (x0.extract (((rd_T35 x30 x32).f3) : Int).toNat ((wrap64 (((rd_T35 x30 x32).f3) + (((rd_T35 x30 x32).f1).size : Int))) : Int).toNat).toList = ((rd_T35 x30 x32).f1).toList then (replevinlaw01_LexPlaces.j1 k x0 x6 x30 x31 x32 (((rd_T35 x30 x32).f1).toList == ([] : List UInt8)) ((rd_T35 x30 x32).f0) ((rd_T35 x30 x32).f1) ((rd_T35 x30 x32).f2) ((rd_T35 x30 x32).f3)) else (replevinlaw01_LexPlaces.j1 k x0 x6 x30 x31 x32 true ((rd_T35 x30 x32).f0) ((rd_T35 x30 x32).f1) ((rd_T35 x30 x32).f2) ((rd_T35 x30 x32).f3))) else (none)) else (none)) else (none)))) else (none)) else (none)) else (replevinlaw01_LexPlaces.l2 k x0 x6)
def replevinlaw01_LexPlaces.j1 : Nat → ByteArray → Int → List (S35) → Int → Int → Bool → Int → ByteArray → Int → Int → Option (Bool)
  | 0, _, _, _, _, _, _, _, _, _, _ => none
  | k + 1, x0, x6, x30, x31, x32, x70, x172000, x172001, x172002, x172003 => if x70 = true then (some false) else (replevinlaw01_LexPlaces.l1 k x0 x6 x30 x31 x32 x172000 x172001 x172002 x172003)
def replevinlaw01_LexPlaces.l1 : Nat → ByteArray → Int → List (S35) → Int → Int → Int → ByteArray → Int → Int → Option (Bool)
  | 0, _, _, _, _, _, _, _, _, _ => none
  | k + 1, x0, x6, x30, x31, x32, x172000, x172001, x172002, x172003 => if x6 < x172003 then (if 0 ≤ x6 then (if x6 < (x0.size : Int) then (if (bt x0 x6) = 32 then (replevinlaw01_LexPlaces.l1 k x0 (wrap64 (x6 + 1)) x30 x31 x32 x172000 x172001 x172002 x172003) else (if (bt x0 x6) = 10 then (replevinlaw01_LexPlaces.l1 k x0 (wrap64 (x6 + 1)) x30 x31 x32 x172000 x172001 x172002 x172003) else (some false))) else (none)) else (none)) else (replevinlaw01_LexPlaces.l0 k x0 (wrap64 (x6 + (x172001.size : Int))) x30 x31 (wrap64 (x32 + 1)))
def replevinlaw01_LexPlaces.l2 : Nat → ByteArray → Int → Option (Bool)
  | 0, _, _ => none
  | k + 1, x0, x6 => if x6 < (x0.size : Int) then (if 0 ≤ x6 then (if (bt x0 x6) = 32 then (replevinlaw01_LexPlaces.l2 k x0 (wrap64 (x6 + 1))) else (if (bt x0 x6) = 10 then (replevinlaw01_LexPlaces.l2 k x0 (wrap64 (x6 + 1))) else (some false))) else (none)) else (some true)
end
def replevinlaw01_LexPlaces.f (k : Nat) (a0 : ByteArray) : Option (Bool) := (replevinlaw01_awake.f).bind fun t164 => (if t164 = true then (if (a0.size : Int) > 4096 then (some true) else ((lex_Lex.f a0).bind fun bt165 => (if bt165.2.2 = 0 then (replevinlaw01_LexPlaces.l0 k a0 0 bt165.1 (bt165.1.length : Int) 0) else (if bt165.2.1 ≥ 0 then (some (decide (bt165.2.1 < (a0.size : Int)))) else (some false))))) else (some false))
theorem replevinlaw01_LexPlaces.mono_l : ∀ k, (∀ y0 y1 y2 y3 y4, LeO (replevinlaw01_LexPlaces.l0 k y0 y1 y2 y3 y4) (replevinlaw01_LexPlaces.l0 (k + 1) y0 y1 y2 y3 y4)) ∧ (∀ y0 y1 y2 y3 y4 y5 y6 y7 y8 y9, LeO (replevinlaw01_LexPlaces.j1 k y0 y1 y2 y3 y4 y5 y6 y7 y8 y9) (replevinlaw01_LexPlaces.j1 (k + 1) y0 y1 y2 y3 y4 y5 y6 y7 y8 y9)) ∧ (∀ y0 y1 y2 y3 y4 y5 y6 y7 y8, LeO (replevinlaw01_LexPlaces.l1 k y0 y1 y2 y3 y4 y5 y6 y7 y8) (replevinlaw01_LexPlaces.l1 (k + 1) y0 y1 y2 y3 y4 y5 y6 y7 y8)) ∧ (∀ y0 y1, LeO (replevinlaw01_LexPlaces.l2 k y0 y1) (replevinlaw01_LexPlaces.l2 (k + 1) y0 y1))
  | 0 => ⟨fun _ _ _ _ _ r h => by simp [replevinlaw01_LexPlaces.l0] at h, fun _ _ _ _ _ _ _ _ _ _ r h => by simp [replevinlaw01_LexPlaces.j1] at h, fun _ _ _ _ _ _ _ _ _ r h => by simp [replevinlaw01_LexPlaces.l1] at h, fun _ _ r h => by simp [replevinlaw01_LexPlaces.l2] at h⟩
  | k + 1 => by
    obtain ⟨ih0, ih1, ih2, ih3⟩ := replevinlaw01_LexPlaces.mono_l k
    refine ⟨?_, ?_, ?_, ?_⟩
    · intro y0 y1 y2 y3 y4
      unfold replevinlaw01_LexPlaces.l0
      repeat' first
      | (with_reducible exact ih0 _ _ _ _ _)
      | (with_reducible exact ih1 _ _ _ _ _ _ _ _ _ _)
      | (with_reducible exact ih2 _ _ _ _ _ _ _ _ _)
      | (with_reducible exact ih3 _ _)
      | (with_reducible exact LeO.refl _)
      | (with_reducible exact LeO.none _)
      | (with_reducible refine LeO.ite ?_ ?_)
      | (with_reducible refine LeO.bind ?_ (fun _ => ?_))
      | exact ih0 _ _ _ _ _
      | exact ih1 _ _ _ _ _ _ _ _ _ _
      | exact ih2 _ _ _ _ _ _ _ _ _
      | exact ih3 _ _
      | exact LeO.none _
      | refine LeO.ite ?_ ?_
      | refine LeO.bind ?_ (fun _ => ?_)
    · intro y0 y1 y2 y3 y4 y5 y6 y7 y8 y9
      unfold replevinlaw01_LexPlaces.j1
      repeat' first
      | (with_reducible exact ih0 _ _ _ _ _)
      | (with_reducible exact ih1 _ _ _ _ _ _ _ _ _ _)
      | (with_reducible exact ih2 _ _ _ _ _ _ _ _ _)
      | (with_reducible exact ih3 _ _)
      | (with_reducible exact LeO.refl _)
      | (with_reducible exact LeO.none _)
      | (with_reducible refine LeO.ite ?_ ?_)
      | (with_reducible refine LeO.bind ?_ (fun _ => ?_))
      | exact ih0 _ _ _ _ _
      | exact ih1 _ _ _ _ _ _ _ _ _ _
      | exact ih2 _ _ _ _ _ _ _ _ _
      | exact ih3 _ _
      | exact LeO.none _
      | refine LeO.ite ?_ ?_
      | refine LeO.bind ?_ (fun _ => ?_)
    · intro y0 y1 y2 y3 y4 y5 y6 y7 y8
      unfold replevinlaw01_LexPlaces.l1
      repeat' first
      | (with_reducible exact ih0 _ _ _ _ _)
      | (with_reducible exact ih1 _ _ _ _ _ _ _ _ _ _)
      | (with_reducible exact ih2 _ _ _ _ _ _ _ _ _)
      | (with_reducible exact ih3 _ _)
      | (with_reducible exact LeO.refl _)
      | (with_reducible exact LeO.none _)
      | (with_reducible refine LeO.ite ?_ ?_)
      | (with_reducible refine LeO.bind ?_ (fun _ => ?_))
      | exact ih0 _ _ _ _ _
      | exact ih1 _ _ _ _ _ _ _ _ _ _
      | exact ih2 _ _ _ _ _ _ _ _ _
      | exact ih3 _ _
      | exact LeO.none _
      | refine LeO.ite ?_ ?_
      | refine LeO.bind ?_ (fun _ => ?_)
    · intro y0 y1
      unfold replevinlaw01_LexPlaces.l2
      repeat' first
      | (with_reducible exact ih0 _ _ _ _ _)
      | (with_reducible exact ih1 _ _ _ _ _ _ _ _ _ _)
      | (with_reducible exact ih2 _ _ _ _ _ _ _ _ _)
      | (with_reducible exact ih3 _ _)
      | (with_reducible exact LeO.refl _)
      | (with_reducible exact LeO.none _)
      | (with_reducible refine LeO.ite ?_ ?_)
      | (with_reducible refine LeO.bind ?_ (fun _ => ?_))
      | exact ih0 _ _ _ _ _
      | exact ih1 _ _ _ _ _ _ _ _ _ _
      | exact ih2 _ _ _ _ _ _ _ _ _
      | exact ih3 _ _
      | exact LeO.none _
      | refine LeO.ite ?_ ?_
      | refine LeO.bind ?_ (fun _ => ?_)
theorem replevinlaw01_LexPlaces.mono : ∀ a0 k, LeO (replevinlaw01_LexPlaces.f k a0) (replevinlaw01_LexPlaces.f (k + 1) a0) := by
  intro a0 k
  obtain ⟨ih0, ih1, ih2, ih3⟩ := replevinlaw01_LexPlaces.mono_l k
  unfold replevinlaw01_LexPlaces.f
  repeat' first
      | (with_reducible exact ih0 _ _ _ _ _)
      | (with_reducible exact ih1 _ _ _ _ _ _ _ _ _ _)
      | (with_reducible exact ih2 _ _ _ _ _ _ _ _ _)
      | (with_reducible exact ih3 _ _)
      | (with_reducible exact LeO.refl _)
      | (with_reducible exact LeO.none _)
      | (with_reducible refine LeO.ite ?_ ?_)
      | (with_reducible refine LeO.bind ?_ (fun _ => ?_))
      | exact ih0 _ _ _ _ _
      | exact ih1 _ _ _ _ _ _ _ _ _ _
      | exact ih2 _ _ _ _ _ _ _ _ _
      | exact ih3 _ _
      | exact LeO.none _
      | refine LeO.ite ?_ ?_
      | refine LeO.bind ?_ (fun _ => ?_)
set_option maxHeartbeats 8000000 in
set_option maxRecDepth 100000 in
theorem replevinlaw01_LexPlaces.calls (k : Nat) (a0 : ByteArray) (r : Bool) (w : World) (h : replevinlaw01_LexPlaces.f k a0 = some r) :
    Calls Try.prog 5 #[.string a0] w fun e w' => e = .returned (.bool r) ∧ Below w.heap.size w w' := by
  have hu35 := Try.underlying35
  have HB := Aside0.mk (Below.refl w.heap.size w)
  have H : ((replevinlaw01_awake.f).bind fun t164 => (if t164 = true then (if (a0.size : Int) > 4096 then (some true) else ((lex_Lex.f a0).bind fun bt165 => (if bt165.2.2 = 0 then (replevinlaw01_LexPlaces.l0 k a0 0 bt165.1 (bt165.1.length : Int) 0) else (if bt165.2.1 ≥ 0 then (some (decide (bt165.2.1 < (a0.size : Int)))) else (some false))))) else (some false))) = some r := h
  clear h
  replace H := Option.bind_eq_some_iff.mp H
  obtain ⟨t164, A20, H⟩ := H
  replace H : (if t164 = true then (if (a0.size : Int) > 4096 then (some true) else ((lex_Lex.f a0).bind fun bt165 => (if bt165.2.2 = 0 then (replevinlaw01_LexPlaces.l0 k a0 0 bt165.1 (bt165.1.length : Int) 0) else (if bt165.2.1 ≥ 0 then (some (decide (bt165.2.1 < (a0.size : Int)))) else (some false))))) else (some false)) = some r := H
  have A2 := Aside0.mk A20
  clear A20
  by_cases c3 : t164 = true
  · subst c3
    have H1 : (if (a0.size : Int) > 4096 then (some true) else ((lex_Lex.f a0).bind fun bt165 => (if bt165.2.2 = 0 then (replevinlaw01_LexPlaces.l0 k a0 0 bt165.1 (bt165.1.length : Int) 0) else (if bt165.2.1 ≥ 0 then (some (decide (bt165.2.1 < (a0.size : Int)))) else (some false))))) = some r := by rw [if_pos rfl] at H; exact H
    clear H
    have H := H1
    clear H1
    by_cases c4 : (a0.size : Int) > 4096
    · rw [if_pos c4] at H
      have c4b0 : decide (4096 < (a0.size : Int)) = true := decide_eq_true c4
      have c4b1 : decide (4096 < a0.size) = true := decide_eq_true (by omega)
      clear c4
      obtain rfl := Option.some.inj H
      go_enter Try.func5, Try.ntmps5
      go_wp2_with (first | (go_at_call 8; (with_reducible refine (replevinlaw01_awake.calls  true _ A2.out).mono ?_); rintro e w5 ⟨rfl, hb⟩; have n0_ := Aside0.mk (below_step (by repeat (first | (with_reducible first | exact HB.out | apply below_alloc | apply pw_below_drewN | apply below_drew1) | exact HB.out)) hb); clear HB; have HB := n0_; clear n0_; (try clear hb); (try clear hb2); (try clear hk); (try clear hi)))
      repeat (go_quiet (first | (go_at_call 8; (with_reducible refine (replevinlaw01_awake.calls  true _ A2.out).mono ?_); rintro e w5 ⟨rfl, hb⟩; have n0_ := Aside0.mk (below_step (by repeat (first | (with_reducible first | exact HB.out | apply below_alloc | apply pw_below_drewN | apply below_drew1) | exact HB.out)) hb); clear HB; have HB := n0_; clear n0_; (try clear hb); (try clear hb2); (try clear hk); (try clear hi))); try go_wp2_with (first | (go_at_call 8; (with_reducible refine (replevinlaw01_awake.calls  true _ A2.out).mono ?_); rintro e w5 ⟨rfl, hb⟩; have n0_ := Aside0.mk (below_step (by repeat (first | (with_reducible first | exact HB.out | apply below_alloc | apply pw_below_drewN | apply below_drew1) | exact HB.out)) hb); clear HB; have HB := n0_; clear n0_; (try clear hb); (try clear hb2); (try clear hk); (try clear hi))))
      go_ret
      exact ⟨by first | rfl | (simp [errW_none, errW_some] <;> rfl) | (simp [*, errW_none, errW_some] <;> rfl), by repeat (first | (with_reducible first | exact HB.out | apply below_alloc | apply pw_below_drewN | apply below_drew1) | exact HB.out)⟩
    · rw [if_neg c4] at H
      have c4b0 : decide (4096 < (a0.size : Int)) = false := decide_eq_false c4
      have c4b1 : decide (4096 < a0.size) = false := decide_eq_false (by omega)
      clear c4
      replace H := Option.bind_eq_some_iff.mp H
      obtain ⟨⟨t165, t166, t167⟩, A60, H⟩ := H
      replace H : (if t167 = 0 then (replevinlaw01_LexPlaces.l0 k a0 0 t165 (t165.length : Int) 0) else (if t166 ≥ 0 then (some (decide (t166 < (a0.size : Int)))) else (some false))) = some r := H
      have A6 := Aside0.mk A60
      clear A60
      by_cases c7 : t167 = 0
      · rw [if_pos c7] at H
        have c7b0 : (t167 == 0) = true := beq_iff_eq.mpr c7
        have c7b1 : (t167 != 0) = false := bne_eq_false_iff_eq.mpr c7
        clear c7
        have H' := Aside0.mk H
        clear H
        go_enter Try.func5, Try.ntmps5
        go_wp2_with (first | (go_at_call 8; (with_reducible refine (replevinlaw01_awake.calls  true _ A2.out).mono ?_); rintro e w8 ⟨rfl, hb⟩; have n0_ := Aside0.mk (below_step (by repeat (first | (with_reducible first | exact HB.out | apply below_alloc | apply pw_below_drewN | apply below_drew1) | exact HB.out)) hb); clear HB; have HB := n0_; clear n0_; (try clear hb); (try clear hb2); (try clear hk); (try clear hi)) | (go_at_call 9; (with_reducible refine (lex_Lex.calls a0 t165 t166 t167 _ A6.out).mono ?_); rintro e w9 ⟨v168, rfl, ho0, hb⟩; have n0_ := Aside0.mk (Kd.R_lower ho0 (below_size (by repeat (first | (with_reducible first | exact HB.out | apply below_alloc | apply pw_below_drewN | apply below_drew1) | exact HB.out)))); have n1_ := Aside0.mk (below_step (by repeat (first | (with_reducible first | exact HB.out | apply below_alloc | apply pw_below_drewN | apply below_drew1) | exact HB.out)) hb); clear HB; have HO169 := n0_; have HB := n1_; clear n0_ n1_; (try clear hb); (try clear hb2); (try clear hk); (try clear hi); (try clear ho0); obtain ⟨Ao10, co10, eo10⟩ := Kd.R_slice HO169.out; subst eo10))
        repeat (go_quiet (first | (go_at_call 8; (with_reducible refine (replevinlaw01_awake.calls  true _ A2.out).mono ?_); rintro e w8 ⟨rfl, hb⟩; have n0_ := Aside0.mk (below_step (by repeat (first | (with_reducible first | exact HB.out | apply below_alloc | apply pw_below_drewN | apply below_drew1) | exact HB.out)) hb); clear HB; have HB := n0_; clear n0_; (try clear hb); (try clear hb2); (try clear hk); (try clear hi)) | (go_at_call 9; (with_reducible refine (lex_Lex.calls a0 t165 t166 t167 _ A6.out).mono ?_); rintro e w9 ⟨v168, rfl, ho0, hb⟩; have n0_ := Aside0.mk (Kd.R_lower ho0 (below_size (by repeat (first | (with_reducible first | exact HB.out | apply below_alloc | apply pw_below_drewN | apply below_drew1) | exact HB.out)))); have n1_ := Aside0.mk (below_step (by repeat (first | (with_reducible first | exact HB.out | apply below_alloc | apply pw_below_drewN | apply below_drew1) | exact HB.out)) hb); clear HB; have HO169 := n0_; have HB := n1_; clear n0_ n1_; (try clear hb); (try clear hb2); (try clear hk); (try clear hi); (try clear ho0); obtain ⟨Ao10, co10, eo10⟩ := Kd.R_slice HO169.out; subst eo10)); try go_wp2_with (first | (go_at_call 8; (with_reducible refine (replevinlaw01_awake.calls  true _ A2.out).mono ?_); rintro e w8 ⟨rfl, hb⟩; have n0_ := Aside0.mk (below_step (by repeat (first | (with_reducible first | exact HB.out | apply below_alloc | apply pw_below_drewN | apply below_drew1) | exact HB.out)) hb); clear HB; have HB := n0_; clear n0_; (try clear hb); (try clear hb2); (try clear hk); (try clear hi)) | (go_at_call 9; (with_reducible refine (lex_Lex.calls a0 t165 t166 t167 _ A6.out).mono ?_); rintro e w9 ⟨v168, rfl, ho0, hb⟩; have n0_ := Aside0.mk (Kd.R_lower ho0 (below_size (by repeat (first | (with_reducible first | exact HB.out | apply below_alloc | apply pw_below_drewN | apply below_drew1) | exact HB.out)))); have n1_ := Aside0.mk (below_step (by repeat (first | (with_reducible first | exact HB.out | apply below_alloc | apply pw_below_drewN | apply below_drew1) | exact HB.out)) hb); clear HB; have HO169 := n0_; have HB := n1_; clear n0_ n1_; (try clear hb); (try clear hb2); (try clear hk); (try clear hi); (try clear ho0); obtain ⟨Ao10, co10, eo10⟩ := Kd.R_slice HO169.out; subst eo10)))
        go_loopg [6, 32] k (fun kq v6 v32 w' => ∃ (x6_1 : Int) (x32_1 : Int), v6 = .int .i64 x6_1 ∧ v32 = .int .i64 x32_1 ∧ Aside0 (replevinlaw01_LexPlaces.l0 kq a0 x6_1 t165 (t165.length : Int) x32_1 = some r) ∧ Aside0 (kq ≤ k) ∧ Aside0 (Kd.R k35 35 w' w.heap.size (fun _ => True) (.slice Ao10 t165.length co10) t165) ∧ Aside0 (Below w.heap.size w w'))
        case atStart => exact ⟨(0), (0), (by first | rfl | (simp; done) | (simp [*]; done)), (by first | rfl | (simp; done) | (simp [*]; done)), H', ⟨Nat.le_refl _⟩, ⟨by (with_reducible repeat (first | apply Kd.R_alloc | apply Kd.R_drewN | apply Kd.R_drew)); exact HO169.out⟩, ⟨by repeat (first | (with_reducible first | exact HB.out | apply below_alloc | apply pw_below_drewN | apply below_drew1) | exact HB.out)⟩⟩
        case round =>
          clear H'
          try clear p2
          try clear c3
          try clear c4
          try clear c4b0
          try clear c4b1
          try clear c5
          try clear c7
          try clear c7b0
          try clear c7b1
          obtain ⟨x6_1, x32_1, rfl, rfl, HA, HK1, HO_30, HB⟩ := hrel
          cases gk with
          | zero => exact absurd HA.out (by simp [replevinlaw01_LexPlaces.l0])
          | succ k1 =>
            have H := HA.out
            clear HA
            simp only [replevinlaw01_LexPlaces.l0] at H
            by_cases c11 : x32_1 < (t165.length : Int)
            · rw [if_pos c11] at H
              have c11b0 : decide (x32_1 < (t165.length : Int)) = true := decide_eq_true c11
              clear c11
              by_cases c12 : 0 ≤ x32_1
              · rw [if_pos c12] at H
                have c12b0 : decide (0 ≤ x32_1) = true := decide_eq_true c12
                clear c12
                by_cases c13 : x32_1 < (t165.length : Int)
                · rw [if_pos c13] at H
                  have c13b0 : decide (x32_1 < (t165.length : Int)) = true := decide_eq_true c13
                  clear c13
                  have HC14 := Aside0.mk H
                  clear H
                  have p170 : 0 ≤ (x32_1 : Int) := of_decide_eq_true (by first | (with_reducible assumption) | assumption)
                  have q170 : x32_1 < (t165.length : Int) := of_decide_eq_true (by first | (with_reducible assumption) | assumption)
                  obtain ⟨ad170, e170, hx170_0, hx170_1, hx170_2, hx170_3⟩ := at_T35 (Kd.R_reads' HO_30.out).2.2 x32_1 p170 q170
                  cases e170
                  replace p170 := eq_true p170
                  replace q170 := eq_true q170
                  go_upto_region 12 with (first | ((with_reducible refine gate_dst (N := 8) rfl ?_); (try (refine gate_guard (by rfl) ?_; dsimp only)); refine box_event ?hg (N := 8) ?hd (cs := #[.int .i64 0, .string (⟨#[]⟩ : ByteArray), .int .i64 0, .int .i64 0]) (t := 35) ?hr ?_; (case hd => rfl); (case hg => rfl); (case hr => first | (go_simp; done) | (go_simp; rfl)); intro gb171 hg w15 hbox hb; have n0_ := Aside0.mk (Kd.R_below (Kd.R_elderB (by (with_reducible repeat (first | apply Kd.R_alloc | apply Kd.R_drewN | apply Kd.R_drew)); exact HO_30.out) gb171 (Nat.le_of_eq hg.symm)) hb); have n1_ := Aside0.mk (below_step (by repeat (first | (with_reducible first | exact HB.out | apply below_alloc | apply pw_below_drewN | apply below_drew1) | exact HB.out)) hb); have n2_ := Aside0.mk (hbox); have n3_ := Aside0.mk ((by rw [hg]; exact (below_size (by repeat (first | (with_reducible first | exact HB.out | apply below_alloc | apply pw_below_drewN | apply below_drew1) | exact HB.out))) : w.heap.size ≤ gb171)); have n4_ := Aside0.mk ((by rw [hg]; exact (below_size (by repeat (first | (with_reducible first | exact HB.out | apply below_alloc | apply pw_below_drewN | apply below_drew1) | exact HB.out))) : w.heap.size ≤ gb171)); clear HO_30; clear HB; have HO_30 := n0_; have HB := n1_; have BK171 := n2_; have GW171 := n3_; have GE171 := n4_; clear n0_ n1_ n2_ n3_ n4_; clear hb hbox hg; have hcz16_0 : w15.cell? ⟨gb171, 0, none⟩ = some (.int .i64 0) := (blk_cell BK171.out 0).trans rfl; have hcz16_1 : w15.cell? ⟨gb171, 1, none⟩ = some (.string (⟨#[]⟩ : ByteArray)) := (blk_cell BK171.out 1).trans rfl; have hcz16_2 : w15.cell? ⟨gb171, 2, none⟩ = some (.int .i64 0) := (blk_cell BK171.out 2).trans rfl; have hcz16_3 : w15.cell? ⟨gb171, 3, none⟩ = some (.int .i64 0) := (blk_cell BK171.out 3).trans rfl; have hfz16_0 := blk_frozen BK171.out 0; have hfz16_1 := blk_frozen BK171.out 1; have hfz16_2 := blk_frozen BK171.out 2; have hfz16_3 := blk_frozen BK171.out 3))
                  repeat (go_quiet (first | ((with_reducible refine gate_dst (N := 8) rfl ?_); (try (refine gate_guard (by rfl) ?_; dsimp only)); refine box_event ?hg (N := 8) ?hd (cs := #[.int .i64 0, .string (⟨#[]⟩ : ByteArray), .int .i64 0, .int .i64 0]) (t := 35) ?hr ?_; (case hd => rfl); (case hg => rfl); (case hr => first | (go_simp; done) | (go_simp; rfl)); intro gb171 hg w15 hbox hb; have n0_ := Aside0.mk (Kd.R_below (Kd.R_elderB (by (with_reducible repeat (first | apply Kd.R_alloc | apply Kd.R_drewN | apply Kd.R_drew)); exact HO_30.out) gb171 (Nat.le_of_eq hg.symm)) hb); have n1_ := Aside0.mk (below_step (by repeat (first | (with_reducible first | exact HB.out | apply below_alloc | apply pw_below_drewN | apply below_drew1) | exact HB.out)) hb); have n2_ := Aside0.mk (hbox); have n3_ := Aside0.mk ((by rw [hg]; exact (below_size (by repeat (first | (with_reducible first | exact HB.out | apply below_alloc | apply pw_below_drewN | apply below_drew1) | exact HB.out))) : w.heap.size ≤ gb171)); have n4_ := Aside0.mk ((by rw [hg]; exact (below_size (by repeat (first | (with_reducible first | exact HB.out | apply below_alloc | apply pw_below_drewN | apply below_drew1) | exact HB.out))) : w.heap.size ≤ gb171)); clear HO_30; clear HB; have HO_30 := n0_; have HB := n1_; have BK171 := n2_; have GW171 := n3_; have GE171 := n4_; clear n0_ n1_ n2_ n3_ n4_; clear hb hbox hg; have hcz16_0 : w15.cell? ⟨gb171, 0, none⟩ = some (.int .i64 0) := (blk_cell BK171.out 0).trans rfl; have hcz16_1 : w15.cell? ⟨gb171, 1, none⟩ = some (.string (⟨#[]⟩ : ByteArray)) := (blk_cell BK171.out 1).trans rfl; have hcz16_2 : w15.cell? ⟨gb171, 2, none⟩ = some (.int .i64 0) := (blk_cell BK171.out 2).trans rfl; have hcz16_3 : w15.cell? ⟨gb171, 3, none⟩ = some (.int .i64 0) := (blk_cell BK171.out 3).trans rfl; have hfz16_0 := blk_frozen BK171.out 0; have hfz16_1 := blk_frozen BK171.out 1; have hfz16_2 := blk_frozen BK171.out 2; have hfz16_3 := blk_frozen BK171.out 3)); go_upto_region 12 with (first | ((with_reducible refine gate_dst (N := 8) rfl ?_); (try (refine gate_guard (by rfl) ?_; dsimp only)); refine box_event ?hg (N := 8) ?hd (cs := #[.int .i64 0, .string (⟨#[]⟩ : ByteArray), .int .i64 0, .int .i64 0]) (t := 35) ?hr ?_; (case hd => rfl); (case hg => rfl); (case hr => first | (go_simp; done) | (go_simp; rfl)); intro gb171 hg w15 hbox hb; have n0_ := Aside0.mk (Kd.R_below (Kd.R_elderB (by (with_reducible repeat (first | apply Kd.R_alloc | apply Kd.R_drewN | apply Kd.R_drew)); exact HO_30.out) gb171 (Nat.le_of_eq hg.symm)) hb); have n1_ := Aside0.mk (below_step (by repeat (first | (with_reducible first | exact HB.out | apply below_alloc | apply pw_below_drewN | apply below_drew1) | exact HB.out)) hb); have n2_ := Aside0.mk (hbox); have n3_ := Aside0.mk ((by rw [hg]; exact (below_size (by repeat (first | (with_reducible first | exact HB.out | apply below_alloc | apply pw_below_drewN | apply below_drew1) | exact HB.out))) : w.heap.size ≤ gb171)); have n4_ := Aside0.mk ((by rw [hg]; exact (below_size (by repeat (first | (with_reducible first | exact HB.out | apply below_alloc | apply pw_below_drewN | apply below_drew1) | exact HB.out))) : w.heap.size ≤ gb171)); clear HO_30; clear HB; have HO_30 := n0_; have HB := n1_; have BK171 := n2_; have GW171 := n3_; have GE171 := n4_; clear n0_ n1_ n2_ n3_ n4_; clear hb hbox hg; have hcz16_0 : w15.cell? ⟨gb171, 0, none⟩ = some (.int .i64 0) := (blk_cell BK171.out 0).trans rfl; have hcz16_1 : w15.cell? ⟨gb171, 1, none⟩ = some (.string (⟨#[]⟩ : ByteArray)) := (blk_cell BK171.out 1).trans rfl; have hcz16_2 : w15.cell? ⟨gb171, 2, none⟩ = some (.int .i64 0) := (blk_cell BK171.out 2).trans rfl; have hcz16_3 : w15.cell? ⟨gb171, 3, none⟩ = some (.int .i64 0) := (blk_cell BK171.out 3).trans rfl; have hfz16_0 := blk_frozen BK171.out 0; have hfz16_1 := blk_frozen BK171.out 1; have hfz16_2 := blk_frozen BK171.out 2; have hfz16_3 := blk_frozen BK171.out 3)))
                  (try simp only [Act.put, List.setIfInBounds_toArray, List.set_cons_zero, List.set_cons_succ])
                  go_cut [70] (fun v70 wc => ∃ (kq : Nat) (x70_13 : Bool), v70 = .bool x70_13 ∧ Aside0 (replevinlaw01_LexPlaces.j1 kq a0 x6_1 t165 (t165.length : Int) x32_1 x70_13 ((rd_T35 t165 x32_1).f0) ((rd_T35 t165 x32_1).f1) ((rd_T35 t165 x32_1).f2) ((rd_T35 t165 x32_1).f3) = some r) ∧ Aside0 (kq ≤ k1) ∧ Aside0 (Kd.R k35 35 wc w.heap.size (fun k_ => k_ ≠ gb171) (.slice (some ad170) t165.length co10) t165) ∧ Aside0 (wc.heap[gb171]? = some (.cells #[.int .i64 ((rd_T35 t165 x32_1).f0), .string ((rd_T35 t165 x32_1).f1), .int .i64 ((rd_T35 t165 x32_1).f2), .int .i64 ((rd_T35 t165 x32_1).f3)] 35 (0, 0))) ∧ Aside0 (Below w.heap.size w wc))
                  case first =>
                    have H := HC14.out
                    clear HC14
                    by_cases c17 : ((rd_T35 t165 x32_1).f3) < x6_1
                    · rw [if_pos c17] at H
                      have c17b0 : decide (((rd_T35 t165 x32_1).f3) < x6_1) = true := decide_eq_true c17
                      clear c17
                      (first | rw [c17b0] | (simp only [i64_w, i32_w]; rw [c17b0]) | skip)
                      have H' := Aside0.mk H
                      clear H
                      have hcz18_0 : w15.cell? ⟨gb171, 0, none⟩ = some (.int .i64 0) := (blk_cell BK171.out 0).trans rfl
                      have hcz18_1 : w15.cell? ⟨gb171, 1, none⟩ = some (.string (⟨#[]⟩ : ByteArray)) := (blk_cell BK171.out 1).trans rfl
                      have hcz18_2 : w15.cell? ⟨gb171, 2, none⟩ = some (.int .i64 0) := (blk_cell BK171.out 2).trans rfl
                      have hcz18_3 : w15.cell? ⟨gb171, 3, none⟩ = some (.int .i64 0) := (blk_cell BK171.out 3).trans rfl
                      have hfz18_0 := blk_frozen BK171.out 0
                      have hfz18_1 := blk_frozen BK171.out 1
                      have hfz18_2 := blk_frozen BK171.out 2
                      have hfz18_3 := blk_frozen BK171.out 3
                      go_wp2
                      repeat (go_quiet (fail); try go_wp2)
                      go_meet
                      case rel => exact ⟨_, (true), (by first | rfl | (simp; done) | (simp [*]; done)), H', ⟨by have := HK1.out; first | omega | exact Nat.le_refl _⟩, ⟨by (with_reducible repeat (first | apply Kd.R_alloc | apply Kd.R_drewN | apply Kd.R_drew)); exact Kd.R_mono (Kd.R_far (p := ⟨gb171, 3, none⟩) (Kd.R_far (p := ⟨gb171, 2, none⟩) (Kd.R_far (p := ⟨gb171, 1, none⟩) (Kd.R_far (p := ⟨gb171, 0, none⟩) (Kd.R_mono HO_30.out (fun k_ hk => (⟨hk, hk.2⟩ : _ ∧ k_ ≠ gb171))) (fun _ hk => hk.2) (.int .i64 ((rd_T35 t165 x32_1).f0))) (fun _ hk => hk.2) (.string ((rd_T35 t165 x32_1).f1))) (fun _ hk => hk.2) (.int .i64 ((rd_T35 t165 x32_1).f2))) (fun _ hk => hk.2) (.int .i64 ((rd_T35 t165 x32_1).f3))) (fun _ hk => hk.1.2)⟩, ⟨by (with_reducible repeat (first | refine blk_drewN ?_ _ | refine blk_drew ?_ | refine blk_alloc ?_ _)); refine blk_put (cs := #[.int .i64 ((rd_T35 t165 x32_1).f0), .string ((rd_T35 t165 x32_1).f1), .int .i64 ((rd_T35 t165 x32_1).f2), .int .i64 0]) ?_ 3 _ rfl; (with_reducible repeat (first | refine blk_drewN ?_ _ | refine blk_drew ?_ | refine blk_alloc ?_ _)); refine blk_put (cs := #[.int .i64 ((rd_T35 t165 x32_1).f0), .string ((rd_T35 t165 x32_1).f1), .int .i64 0, .int .i64 0]) ?_ 2 _ rfl; (with_reducible repeat (first | refine blk_drewN ?_ _ | refine blk_drew ?_ | refine blk_alloc ?_ _)); refine blk_put (cs := #[.int .i64 ((rd_T35 t165 x32_1).f0), .string (⟨#[]⟩ : ByteArray), .int .i64 0, .int .i64 0]) ?_ 1 _ rfl; (with_reducible repeat (first | refine blk_drewN ?_ _ | refine blk_drew ?_ | refine blk_alloc ?_ _)); refine blk_put (cs := #[.int .i64 0, .string (⟨#[]⟩ : ByteArray), .int .i64 0, .int .i64 0]) ?_ 0 _ rfl; (with_reducible repeat (first | refine blk_drewN ?_ _ | refine blk_drew ?_ | refine blk_alloc ?_ _)); exact BK171.out⟩, ⟨by repeat (first | (with_reducible first | exact HB.out | apply below_alloc | apply pw_below_drewN | apply below_drew1 | refine below_set ?_ GE171.out) | exact HB.out)⟩⟩
                    · rw [if_neg c17] at H
                      have c17b0 : decide (((rd_T35 t165 x32_1).f3) < x6_1) = false := decide_eq_false c17
                      clear c17
                      (first | rw [c17b0] | (simp only [i64_w, i32_w]; rw [c17b0]) | skip)
                      by_cases c19 : (wrap64 (((rd_T35 t165 x32_1).f3) + (((rd_T35 t165 x32_1).f1).size : Int))) > (a0.size : Int)
                      · rw [if_pos c19] at H
                        have c19b0 : decide ((a0.size : Int) < (wrap64 (((rd_T35 t165 x32_1).f3) + (((rd_T35 t165 x32_1).f1).size : Int)))) = true := decide_eq_true c19
                        clear c19
                        have H' := Aside0.mk H
                        clear H
                        have hcz20_0 : w15.cell? ⟨gb171, 0, none⟩ = some (.int .i64 0) := (blk_cell BK171.out 0).trans rfl
                        have hcz20_1 : w15.cell? ⟨gb171, 1, none⟩ = some (.string (⟨#[]⟩ : ByteArray)) := (blk_cell BK171.out 1).trans rfl
                        have hcz20_2 : w15.cell? ⟨gb171, 2, none⟩ = some (.int .i64 0) := (blk_cell BK171.out 2).trans rfl
                        have hcz20_3 : w15.cell? ⟨gb171, 3, none⟩ = some (.int .i64 0) := (blk_cell BK171.out 3).trans rfl
                        have hfz20_0 := blk_frozen BK171.out 0
                        have hfz20_1 := blk_frozen BK171.out 1
                        have hfz20_2 := blk_frozen BK171.out 2
                        have hfz20_3 := blk_frozen BK171.out 3
                        go_wp2
                        repeat (go_quiet (fail); try go_wp2)
                        go_meet
                        case rel => exact ⟨_, (true), (by first | rfl | (simp; done) | (simp [*]; done)), H', ⟨by have := HK1.out; first | omega | exact Nat.le_refl _⟩, ⟨by (with_reducible repeat (first | apply Kd.R_alloc | apply Kd.R_drewN | apply Kd.R_drew)); exact Kd.R_mono (Kd.R_far (p := ⟨gb171, 3, none⟩) (Kd.R_far (p := ⟨gb171, 2, none⟩) (Kd.R_far (p := ⟨gb171, 1, none⟩) (Kd.R_far (p := ⟨gb171, 0, none⟩) (Kd.R_mono HO_30.out (fun k_ hk => (⟨hk, hk.2⟩ : _ ∧ k_ ≠ gb171))) (fun _ hk => hk.2) (.int .i64 ((rd_T35 t165 x32_1).f0))) (fun _ hk => hk.2) (.string ((rd_T35 t165 x32_1).f1))) (fun _ hk => hk.2) (.int .i64 ((rd_T35 t165 x32_1).f2))) (fun _ hk => hk.2) (.int .i64 ((rd_T35 t165 x32_1).f3))) (fun _ hk => hk.1.2)⟩, ⟨by (with_reducible repeat (first | refine blk_drewN ?_ _ | refine blk_drew ?_ | refine blk_alloc ?_ _)); refine blk_put (cs := #[.int .i64 ((rd_T35 t165 x32_1).f0), .string ((rd_T35 t165 x32_1).f1), .int .i64 ((rd_T35 t165 x32_1).f2), .int .i64 0]) ?_ 3 _ rfl; (with_reducible repeat (first | refine blk_drewN ?_ _ | refine blk_drew ?_ | refine blk_alloc ?_ _)); refine blk_put (cs := #[.int .i64 ((rd_T35 t165 x32_1).f0), .string ((rd_T35 t165 x32_1).f1), .int .i64 0, .int .i64 0]) ?_ 2 _ rfl; (with_reducible repeat (first | refine blk_drewN ?_ _ | refine blk_drew ?_ | refine blk_alloc ?_ _)); refine blk_put (cs := #[.int .i64 ((rd_T35 t165 x32_1).f0), .string (⟨#[]⟩ : ByteArray), .int .i64 0, .int .i64 0]) ?_ 1 _ rfl; (with_reducible repeat (first | refine blk_drewN ?_ _ | refine blk_drew ?_ | refine blk_alloc ?_ _)); refine blk_put (cs := #[.int .i64 0, .string (⟨#[]⟩ : ByteArray), .int .i64 0, .int .i64 0]) ?_ 0 _ rfl; (with_reducible repeat (first | refine blk_drewN ?_ _ | refine blk_drew ?_ | refine blk_alloc ?_ _)); exact BK171.out⟩, ⟨by repeat (first | (with_reducible first | exact HB.out | apply below_alloc | apply pw_below_drewN | apply below_drew1 | refine below_set ?_ GE171.out) | exact HB.out)⟩⟩
                      · rw [if_neg c19] at H
                        have c19b0 : decide ((a0.size : Int) < (wrap64 (((rd_T35 t165 x32_1).f3) + (((rd_T35 t165 x32_1).f1).size : Int)))) = false := decide_eq_false c19
                        clear c19
                        by_cases c21 : 0 ≤ ((rd_T35 t165 x32_1).f3)
                        · rw [if_pos c21] at H
                          have c21b0 := eq_true c21
                          have c21b1 : decide (0 ≤ ((rd_T35 t165 x32_1).f3)) = true := decide_eq_true c21
                          clear c21
                          by_cases c22 : ((rd_T35 t165 x32_1).f3) ≤ (wrap64 (((rd_T35 t165 x32_1).f3) + (((rd_T35 t165 x32_1).f1).size : Int)))
                          · rw [if_pos c22] at H
                            have c22b0 := eq_true c22
                            have c22b1 : decide (((rd_T35 t165 x32_1).f3) ≤ (wrap64 (((rd_T35 t165 x32_1).f3) + (((rd_T35 t165 x32_1).f1).size : Int)))) = true := decide_eq_true c22
                            by_cases c23 : (wrap64 (((rd_T35 t165 x32_1).f3) + (((rd_T35 t165 x32_1).f1).size : Int))) ≤ (a0.size : Int)
                            · rw [if_pos c23] at H
                              have c23b0 := eq_true c23
                              have c23b1 : decide ((wrap64 (((rd_T35 t165 x32_1).f3) + (((rd_T35 t165 x32_1).f1).size : Int))) ≤ (a0.size : Int)) = true := decide_eq_true c23
                              by_cases c24 : (a0.extract (((rd_T35 t165 x32_1).f3) : Int).toNat ((wrap64 (((rd_T35 t165 x32_1).f3) + (((rd_T35 t165 x32_1).f1).size : Int))) : Int).toNat).toList = ((rd_T35 t165 x32_1).f1).toList
                              · rw [if_pos c24] at H
                                have c24b0 : ((a0.extract (((rd_T35 t165 x32_1).f3) : Int).toNat ((wrap64 (((rd_T35 t165 x32_1).f3) + (((rd_T35 t165 x32_1).f1).size : Int))) : Int).toNat).toList == ((rd_T35 t165 x32_1).f1).toList) = true := beq_iff_eq.mpr c24
                                have c24b1 : ((a0.extract (((rd_T35 t165 x32_1).f3) : Int).toNat ((wrap64 (((rd_T35 t165 x32_1).f3) + (((rd_T35 t165 x32_1).f1).size : Int))) : Int).toNat).toList != ((rd_T35 t165 x32_1).f1).toList) = false := bne_eq_false_iff_eq.mpr c24
                                clear c24
                                have H' := Aside0.mk H
                                clear H
                                have hcz25_0 : w15.cell? ⟨gb171, 0, none⟩ = some (.int .i64 0) := (blk_cell BK171.out 0).trans rfl
                                have hcz25_1 : w15.cell? ⟨gb171, 1, none⟩ = some (.string (⟨#[]⟩ : ByteArray)) := (blk_cell BK171.out 1).trans rfl
                                have hcz25_2 : w15.cell? ⟨gb171, 2, none⟩ = some (.int .i64 0) := (blk_cell BK171.out 2).trans rfl
                                have hcz25_3 : w15.cell? ⟨gb171, 3, none⟩ = some (.int .i64 0) := (blk_cell BK171.out 3).trans rfl
                                have hfz25_0 := blk_frozen BK171.out 0
                                have hfz25_1 := blk_frozen BK171.out 1
                                have hfz25_2 := blk_frozen BK171.out 2
                                have hfz25_3 := blk_frozen BK171.out 3
                                go_wp2
                                repeat (go_quiet (fail); try go_wp2)
                                go_meet
                                case rel => exact ⟨_, ((((rd_T35 t165 x32_1).f1).toList == ([] : List UInt8))), (by first | rfl | (simp; done) | (simp [*]; done)), H', ⟨by have := HK1.out; first | omega | exact Nat.le_refl _⟩, ⟨by (with_reducible repeat (first | apply Kd.R_alloc | apply Kd.R_drewN | apply Kd.R_drew)); exact Kd.R_mono (Kd.R_far (p := ⟨gb171, 3, none⟩) (Kd.R_far (p := ⟨gb171, 2, none⟩) (Kd.R_far (p := ⟨gb171, 1, none⟩) (Kd.R_far (p := ⟨gb171, 0, none⟩) (Kd.R_mono HO_30.out (fun k_ hk => (⟨hk, hk.2⟩ : _ ∧ k_ ≠ gb171))) (fun _ hk => hk.2) (.int .i64 ((rd_T35 t165 x32_1).f0))) (fun _ hk => hk.2) (.string ((rd_T35 t165 x32_1).f1))) (fun _ hk => hk.2) (.int .i64 ((rd_T35 t165 x32_1).f2))) (fun _ hk => hk.2) (.int .i64 ((rd_T35 t165 x32_1).f3))) (fun _ hk => hk.1.2)⟩, ⟨by (with_reducible repeat (first | refine blk_drewN ?_ _ | refine blk_drew ?_ | refine blk_alloc ?_ _)); refine blk_put (cs := #[.int .i64 ((rd_T35 t165 x32_1).f0), .string ((rd_T35 t165 x32_1).f1), .int .i64 ((rd_T35 t165 x32_1).f2), .int .i64 0]) ?_ 3 _ rfl; (with_reducible repeat (first | refine blk_drewN ?_ _ | refine blk_drew ?_ | refine blk_alloc ?_ _)); refine blk_put (cs := #[.int .i64 ((rd_T35 t165 x32_1).f0), .string ((rd_T35 t165 x32_1).f1), .int .i64 0, .int .i64 0]) ?_ 2 _ rfl; (with_reducible repeat (first | refine blk_drewN ?_ _ | refine blk_drew ?_ | refine blk_alloc ?_ _)); refine blk_put (cs := #[.int .i64 ((rd_T35 t165 x32_1).f0), .string (⟨#[]⟩ : ByteArray), .int .i64 0, .int .i64 0]) ?_ 1 _ rfl; (with_reducible repeat (first | refine blk_drewN ?_ _ | refine blk_drew ?_ | refine blk_alloc ?_ _)); refine blk_put (cs := #[.int .i64 0, .string (⟨#[]⟩ : ByteArray), .int .i64 0, .int .i64 0]) ?_ 0 _ rfl; (with_reducible repeat (first | refine blk_drewN ?_ _ | refine blk_drew ?_ | refine blk_alloc ?_ _)); exact BK171.out⟩, ⟨by repeat (first | (with_reducible first | exact HB.out | apply below_alloc | apply pw_below_drewN | apply below_drew1 | refine below_set ?_ GE171.out) | exact HB.out)⟩⟩
                              · rw [if_neg c24] at H
                                have c24b0 : ((a0.extract (((rd_T35 t165 x32_1).f3) : Int).toNat ((wrap64 (((rd_T35 t165 x32_1).f3) + (((rd_T35 t165 x32_1).f1).size : Int))) : Int).toNat).toList == ((rd_T35 t165 x32_1).f1).toList) = false := beq_eq_false_iff_ne.mpr c24
                                have c24b1 : ((a0.extract (((rd_T35 t165 x32_1).f3) : Int).toNat ((wrap64 (((rd_T35 t165 x32_1).f3) + (((rd_T35 t165 x32_1).f1).size : Int))) : Int).toNat).toList != ((rd_T35 t165 x32_1).f1).toList) = true := bne_iff_ne.mpr c24
                                have H' := Aside0.mk H
                                clear H
                                have hcz26_0 : w15.cell? ⟨gb171, 0, none⟩ = some (.int .i64 0) := (blk_cell BK171.out 0).trans rfl
                                have hcz26_1 : w15.cell? ⟨gb171, 1, none⟩ = some (.string (⟨#[]⟩ : ByteArray)) := (blk_cell BK171.out 1).trans rfl
                                have hcz26_2 : w15.cell? ⟨gb171, 2, none⟩ = some (.int .i64 0) := (blk_cell BK171.out 2).trans rfl
                                have hcz26_3 : w15.cell? ⟨gb171, 3, none⟩ = some (.int .i64 0) := (blk_cell BK171.out 3).trans rfl
                                have hfz26_0 := blk_frozen BK171.out 0
                                have hfz26_1 := blk_frozen BK171.out 1
                                have hfz26_2 := blk_frozen BK171.out 2
                                have hfz26_3 := blk_frozen BK171.out 3
                                go_wp2
                                repeat (go_quiet (fail); try go_wp2)
                                go_meet
                                case rel => exact ⟨_, (true), (by first | rfl | (simp; done) | (simp [*]; done)), H', ⟨by have := HK1.out; first | omega | exact Nat.le_refl _⟩, ⟨by (with_reducible repeat (first | apply Kd.R_alloc | apply Kd.R_drewN | apply Kd.R_drew)); exact Kd.R_mono (Kd.R_far (p := ⟨gb171, 3, none⟩) (Kd.R_far (p := ⟨gb171, 2, none⟩) (Kd.R_far (p := ⟨gb171, 1, none⟩) (Kd.R_far (p := ⟨gb171, 0, none⟩) (Kd.R_mono HO_30.out (fun k_ hk => (⟨hk, hk.2⟩ : _ ∧ k_ ≠ gb171))) (fun _ hk => hk.2) (.int .i64 ((rd_T35 t165 x32_1).f0))) (fun _ hk => hk.2) (.string ((rd_T35 t165 x32_1).f1))) (fun _ hk => hk.2) (.int .i64 ((rd_T35 t165 x32_1).f2))) (fun _ hk => hk.2) (.int .i64 ((rd_T35 t165 x32_1).f3))) (fun _ hk => hk.1.2)⟩, ⟨by (with_reducible repeat (first | refine blk_drewN ?_ _ | refine blk_drew ?_ | refine blk_alloc ?_ _)); refine blk_put (cs := #[.int .i64 ((rd_T35 t165 x32_1).f0), .string ((rd_T35 t165 x32_1).f1), .int .i64 ((rd_T35 t165 x32_1).f2), .int .i64 0]) ?_ 3 _ rfl; (with_reducible repeat (first | refine blk_drewN ?_ _ | refine blk_drew ?_ | refine blk_alloc ?_ _)); refine blk_put (cs := #[.int .i64 ((rd_T35 t165 x32_1).f0), .string ((rd_T35 t165 x32_1).f1), .int .i64 0, .int .i64 0]) ?_ 2 _ rfl; (with_reducible repeat (first | refine blk_drewN ?_ _ | refine blk_drew ?_ | refine blk_alloc ?_ _)); refine blk_put (cs := #[.int .i64 ((rd_T35 t165 x32_1).f0), .string (⟨#[]⟩ : ByteArray), .int .i64 0, .int .i64 0]) ?_ 1 _ rfl; (with_reducible repeat (first | refine blk_drewN ?_ _ | refine blk_drew ?_ | refine blk_alloc ?_ _)); refine blk_put (cs := #[.int .i64 0, .string (⟨#[]⟩ : ByteArray), .int .i64 0, .int .i64 0]) ?_ 0 _ rfl; (with_reducible repeat (first | refine blk_drewN ?_ _ | refine blk_drew ?_ | refine blk_alloc ?_ _)); exact BK171.out⟩, ⟨by repeat (first | (with_reducible first | exact HB.out | apply below_alloc | apply pw_below_drewN | apply below_drew1 | refine below_set ?_ GE171.out) | exact HB.out)⟩⟩
                            · rw [if_neg c23] at H
                              exact absurd H (by simp)
                          · rw [if_neg c22] at H
                            exact absurd H (by simp)
                        · rw [if_neg c21] at H
                          exact absurd H (by simp)
                  case rest =>
                    clear HC14
                    try clear c1
                    try clear p1
                    try clear q1
                    try clear hx1
                    try clear c2
                    try clear p2
                    try clear c3
                    try clear c4
                    try clear c4b0
                    try clear c4b1
                    try clear c5
                    try clear p6
                    try clear c7
                    try clear c7b0
                    try clear c7b1
                    try clear c11
                    try clear c11b0
                    try clear c12
                    try clear c12b0
                    try clear c13
                    try clear c13b0
                    try clear c17
                    try clear c17b0
                    try clear p17
                    try clear q17
                    try clear hx17
                    try clear c19
                    try clear c19b0
                    try clear c21
                    try clear c21b0
                    try clear c21b1
                    try clear c22
                    try clear c22b0
                    try clear c22b1
                    try clear c23
                    try clear c23b0
                    try clear c23b1
                    try clear c24
                    try clear c24b0
                    try clear c24b1
                    try clear hcz16_0
                    try clear hcz16_1
                    try clear hcz16_2
                    try clear hcz16_3
                    try clear hcz18_0
                    try clear hcz18_1
                    try clear hcz18_2
                    try clear hcz18_3
                    try clear hcz20_0
                    try clear hcz20_1
                    try clear hcz20_2
                    try clear hcz20_3
                    try clear hcz25_0
                    try clear hcz25_1
                    try clear hcz25_2
                    try clear hcz25_3
                    try clear hcz26_0
                    try clear hcz26_1
                    try clear hcz26_2
                    try clear hcz26_3
                    try clear hfz16_0
                    try clear hfz16_1
                    try clear hfz16_2
                    try clear hfz16_3
                    try clear hfz18_0
                    try clear hfz18_1
                    try clear hfz18_2
                    try clear hfz18_3
                    try clear hfz20_0
                    try clear hfz20_1
                    try clear hfz20_2
                    try clear hfz20_3
                    try clear hfz25_0
                    try clear hfz25_1
                    try clear hfz25_2
                    try clear hfz25_3
                    try clear hfz26_0
                    try clear hfz26_1
                    try clear hfz26_2
                    try clear hfz26_3
                    try clear hx170_0
                    try clear hx170_1
                    try clear hx170_2
                    try clear hx170_3
                    try clear p170
                    try clear p2
                    try clear q170
                    obtain ⟨kq, x70_13, rfl, HA, HJ13, HO_30, BK171, HB⟩ := hcut
                    cases kq with
                    | zero => exact absurd HA.out (by simp [replevinlaw01_LexPlaces.j1])
                    | succ kj13 =>
                      have H := HA.out
                      clear HA
                      simp only [replevinlaw01_LexPlaces.j1] at H
                      by_cases c27 : x70_13 = true
                      · subst c27
                        have H1 : (some false) = some r := by rw [if_pos rfl] at H; exact H
                        clear H
                        have H := H1
                        clear H1
                        obtain rfl := Option.some.inj H
                        go_wp2
                        repeat (go_quiet (fail); try go_wp2)
                        go_ret
                        exact ⟨by first | rfl | (simp [errW_none, errW_some] <;> rfl) | (simp [*, errW_none, errW_some] <;> rfl), by repeat (first | (with_reducible first | exact HB.out | apply below_alloc | apply pw_below_drewN | apply below_drew1 | refine below_set ?_ GE171.out) | exact HB.out)⟩
                      · replace c27 := Bool.eq_false_iff.mpr c27
                        subst c27
                        have H1 : (replevinlaw01_LexPlaces.l1 kj13 a0 x6_1 t165 (t165.length : Int) x32_1 ((rd_T35 t165 x32_1).f0) ((rd_T35 t165 x32_1).f1) ((rd_T35 t165 x32_1).f2) ((rd_T35 t165 x32_1).f3)) = some r := by rw [if_neg (show ¬ (false = true) by decide)] at H; exact H
                        clear H
                        have H := H1
                        clear H1
                        have H' := Aside0.mk H
                        clear H
                        go_wp2
                        repeat (go_quiet (fail); try go_wp2)
                        go_loopg [6] kj13 (fun kq v6 w' => ∃ (x6_3 : Int), v6 = .int .i64 x6_3 ∧ Aside0 (replevinlaw01_LexPlaces.l1 kq a0 x6_3 t165 (t165.length : Int) x32_1 ((rd_T35 t165 x32_1).f0) ((rd_T35 t165 x32_1).f1) ((rd_T35 t165 x32_1).f2) ((rd_T35 t165 x32_1).f3) = some r) ∧ Aside0 (kq ≤ kj13) ∧ Aside0 (Kd.R k35 35 w' w.heap.size (fun k_ => k_ ≠ gb171) (.slice (some ad170) t165.length co10) t165) ∧ Aside0 (w'.heap[gb171]? = some (.cells #[.int .i64 ((rd_T35 t165 x32_1).f0), .string ((rd_T35 t165 x32_1).f1), .int .i64 ((rd_T35 t165 x32_1).f2), .int .i64 ((rd_T35 t165 x32_1).f3)] 35 (0, 0))) ∧ Aside0 (Below w.heap.size w w'))
                        case atStart => exact ⟨(x6_1), (by first | rfl | (simp; done) | (simp [*]; done)), H', ⟨Nat.le_refl _⟩, ⟨by (with_reducible repeat (first | apply Kd.R_alloc | apply Kd.R_drewN | apply Kd.R_drew)); exact HO_30.out⟩, ⟨by (with_reducible repeat (first | refine blk_drewN ?_ _ | refine blk_drew ?_ | refine blk_alloc ?_ _)); exact BK171.out⟩, ⟨by repeat (first | (with_reducible first | exact HB.out | apply below_alloc | apply pw_below_drewN | apply below_drew1 | refine below_set ?_ GE171.out) | exact HB.out)⟩⟩
                        case round =>
                          clear H'
                          try clear c1
                          try clear p1
                          try clear q1
                          try clear hx1
                          try clear c2
                          try clear p2
                          try clear c3
                          try clear c4
                          try clear c4b0
                          try clear c4b1
                          try clear c5
                          try clear p6
                          try clear c7
                          try clear c7b0
                          try clear c7b1
                          try clear c11
                          try clear c11b0
                          try clear c12
                          try clear c12b0
                          try clear c13
                          try clear c13b0
                          try clear c17
                          try clear c17b0
                          try clear p17
                          try clear q17
                          try clear hx17
                          try clear c19
                          try clear c19b0
                          try clear c21
                          try clear c21b0
                          try clear c21b1
                          try clear c22
                          try clear c22b0
                          try clear c22b1
                          try clear c23
                          try clear c23b0
                          try clear c23b1
                          try clear c24
                          try clear c24b0
                          try clear c24b1
                          try clear c27
                          try clear hcz16_0
                          try clear hcz16_1
                          try clear hcz16_2
                          try clear hcz16_3
                          try clear hcz18_0
                          try clear hcz18_1
                          try clear hcz18_2
                          try clear hcz18_3
                          try clear hcz20_0
                          try clear hcz20_1
                          try clear hcz20_2
                          try clear hcz20_3
                          try clear hcz25_0
                          try clear hcz25_1
                          try clear hcz25_2
                          try clear hcz25_3
                          try clear hcz26_0
                          try clear hcz26_1
                          try clear hcz26_2
                          try clear hcz26_3
                          try clear hfz16_0
                          try clear hfz16_1
                          try clear hfz16_2
                          try clear hfz16_3
                          try clear hfz18_0
                          try clear hfz18_1
                          try clear hfz18_2
                          try clear hfz18_3
                          try clear hfz20_0
                          try clear hfz20_1
                          try clear hfz20_2
                          try clear hfz20_3
                          try clear hfz25_0
                          try clear hfz25_1
                          try clear hfz25_2
                          try clear hfz25_3
                          try clear hfz26_0
                          try clear hfz26_1
                          try clear hfz26_2
                          try clear hfz26_3
                          try clear hx170_0
                          try clear hx170_1
                          try clear hx170_2
                          try clear hx170_3
                          try clear p1
                          try clear p17
                          try clear p170
                          try clear p2
                          try clear p6
                          try clear q1
                          try clear q17
                          try clear q170
                          obtain ⟨x6_3, rfl, HA, HK3, HO_30, BK171, HB⟩ := hrel
                          cases gk with
                          | zero => exact absurd HA.out (by simp [replevinlaw01_LexPlaces.l1])
                          | succ k3 =>
                            have H := HA.out
                            clear HA
                            simp only [replevinlaw01_LexPlaces.l1] at H
                            by_cases c28 : x6_3 < ((rd_T35 t165 x32_1).f3)
                            · rw [if_pos c28] at H
                              have c28b0 : decide (x6_3 < ((rd_T35 t165 x32_1).f3)) = true := decide_eq_true c28
                              clear c28
                              by_cases c29 : 0 ≤ x6_3
                              · rw [if_pos c29] at H
                                have c29b0 : decide (0 ≤ x6_3) = true := decide_eq_true c29
                                clear c29
                                by_cases c30 : x6_3 < (a0.size : Int)
                                · rw [if_pos c30] at H
                                  have c30b0 : decide (x6_3 < (a0.size : Int)) = true := decide_eq_true c30
                                  clear c30
                                  by_cases c32 : (bt a0 x6_3) = 32
                                  · rw [if_pos c32] at H
                                    have c32b0 : ((bt a0 x6_3) == 32) = true := beq_iff_eq.mpr c32
                                    have c32b1 : ((bt a0 x6_3) != 32) = false := bne_eq_false_iff_eq.mpr c32
                                    clear c32
                                    have H' := Aside0.mk H
                                    clear H
                                    have hcz33_0 : wr.cell? ⟨gb171, 0, none⟩ = some (.int .i64 ((rd_T35 t165 x32_1).f0)) := (blk_cell BK171.out 0).trans rfl
                                    have hcz33_1 : wr.cell? ⟨gb171, 1, none⟩ = some (.string ((rd_T35 t165 x32_1).f1)) := (blk_cell BK171.out 1).trans rfl
                                    have hcz33_2 : wr.cell? ⟨gb171, 2, none⟩ = some (.int .i64 ((rd_T35 t165 x32_1).f2)) := (blk_cell BK171.out 2).trans rfl
                                    have hcz33_3 : wr.cell? ⟨gb171, 3, none⟩ = some (.int .i64 ((rd_T35 t165 x32_1).f3)) := (blk_cell BK171.out 3).trans rfl
                                    have hfz33_0 := blk_frozen BK171.out 0
                                    have hfz33_1 := blk_frozen BK171.out 1
                                    have hfz33_2 := blk_frozen BK171.out 2
                                    have hfz33_3 := blk_frozen BK171.out 3
                                    have p31 : 0 ≤ (x6_3 : Int) := of_decide_eq_true (by first | (with_reducible assumption) | assumption)
                                    have q31 : x6_3 < (a0.size : Int) := of_decide_eq_true (by first | (with_reducible assumption) | assumption)
                                    have hx31 := bt_at a0 x6_3
                                    replace p31 := eq_true p31
                                    replace q31 := eq_true q31
                                    go_wp2
                                    repeat (go_quiet (fail); try go_wp2)
                                    go_roundg k3
                                    case measure => have := HK1.out; have := HJ13.out; have := HK3.out; omega
                                    case rel => exact ⟨(wrap64 (x6_3 + 1)), (by first | rfl | (simp; done) | (simp [*]; done)), H', ⟨by have := HK1.out; have := HJ13.out; have := HK3.out; omega⟩, ⟨by (with_reducible repeat (first | apply Kd.R_alloc | apply Kd.R_drewN | apply Kd.R_drew)); exact HO_30.out⟩, ⟨by (with_reducible repeat (first | refine blk_drewN ?_ _ | refine blk_drew ?_ | refine blk_alloc ?_ _)); exact BK171.out⟩, ⟨by repeat (first | (with_reducible first | exact HB.out | apply below_alloc | apply pw_below_drewN | apply below_drew1 | refine below_set ?_ GE171.out) | exact HB.out)⟩⟩
                                  · rw [if_neg c32] at H
                                    have c32b0 : ((bt a0 x6_3) == 32) = false := beq_eq_false_iff_ne.mpr c32
                                    have c32b1 : ((bt a0 x6_3) != 32) = true := bne_iff_ne.mpr c32
                                    by_cases c35 : (bt a0 x6_3) = 10
                                    · rw [if_pos c35] at H
                                      have c35b0 : ((bt a0 x6_3) == 10) = true := beq_iff_eq.mpr c35
                                      have c35b1 : ((bt a0 x6_3) != 10) = false := bne_eq_false_iff_eq.mpr c35
                                      clear c35
                                      have H' := Aside0.mk H
                                      clear H
                                      have hcz36_0 : wr.cell? ⟨gb171, 0, none⟩ = some (.int .i64 ((rd_T35 t165 x32_1).f0)) := (blk_cell BK171.out 0).trans rfl
                                      have hcz36_1 : wr.cell? ⟨gb171, 1, none⟩ = some (.string ((rd_T35 t165 x32_1).f1)) := (blk_cell BK171.out 1).trans rfl
                                      have hcz36_2 : wr.cell? ⟨gb171, 2, none⟩ = some (.int .i64 ((rd_T35 t165 x32_1).f2)) := (blk_cell BK171.out 2).trans rfl
                                      have hcz36_3 : wr.cell? ⟨gb171, 3, none⟩ = some (.int .i64 ((rd_T35 t165 x32_1).f3)) := (blk_cell BK171.out 3).trans rfl
                                      have hfz36_0 := blk_frozen BK171.out 0
                                      have hfz36_1 := blk_frozen BK171.out 1
                                      have hfz36_2 := blk_frozen BK171.out 2
                                      have hfz36_3 := blk_frozen BK171.out 3
                                      have p31 : 0 ≤ (x6_3 : Int) := of_decide_eq_true (by first | (with_reducible assumption) | assumption)
                                      have q31 : x6_3 < (a0.size : Int) := of_decide_eq_true (by first | (with_reducible assumption) | assumption)
                                      have hx31 := bt_at a0 x6_3
                                      replace p31 := eq_true p31
                                      replace q31 := eq_true q31
                                      have p34 : 0 ≤ (x6_3 : Int) := of_decide_eq_true (by first | (with_reducible assumption) | assumption)
                                      have q34 : x6_3 < (a0.size : Int) := of_decide_eq_true (by first | (with_reducible assumption) | assumption)
                                      have hx34 := bt_at a0 x6_3
                                      replace p34 := eq_true p34
                                      replace q34 := eq_true q34
                                      go_wp2
                                      repeat (go_quiet (fail); try go_wp2)
                                      go_roundg k3
                                      case measure => have := HK1.out; have := HJ13.out; have := HK3.out; omega
                                      case rel => exact ⟨(wrap64 (x6_3 + 1)), (by first | rfl | (simp; done) | (simp [*]; done)), H', ⟨by have := HK1.out; have := HJ13.out; have := HK3.out; omega⟩, ⟨by (with_reducible repeat (first | apply Kd.R_alloc | apply Kd.R_drewN | apply Kd.R_drew)); exact HO_30.out⟩, ⟨by (with_reducible repeat (first | refine blk_drewN ?_ _ | refine blk_drew ?_ | refine blk_alloc ?_ _)); exact BK171.out⟩, ⟨by repeat (first | (with_reducible first | exact HB.out | apply below_alloc | apply pw_below_drewN | apply below_drew1 | refine below_set ?_ GE171.out) | exact HB.out)⟩⟩
                                    · rw [if_neg c35] at H
                                      have c35b0 : ((bt a0 x6_3) == 10) = false := beq_eq_false_iff_ne.mpr c35
                                      have c35b1 : ((bt a0 x6_3) != 10) = true := bne_iff_ne.mpr c35
                                      obtain rfl := Option.some.inj H
                                      have hcz37_0 : wr.cell? ⟨gb171, 0, none⟩ = some (.int .i64 ((rd_T35 t165 x32_1).f0)) := (blk_cell BK171.out 0).trans rfl
                                      have hcz37_1 : wr.cell? ⟨gb171, 1, none⟩ = some (.string ((rd_T35 t165 x32_1).f1)) := (blk_cell BK171.out 1).trans rfl
                                      have hcz37_2 : wr.cell? ⟨gb171, 2, none⟩ = some (.int .i64 ((rd_T35 t165 x32_1).f2)) := (blk_cell BK171.out 2).trans rfl
                                      have hcz37_3 : wr.cell? ⟨gb171, 3, none⟩ = some (.int .i64 ((rd_T35 t165 x32_1).f3)) := (blk_cell BK171.out 3).trans rfl
                                      have hfz37_0 := blk_frozen BK171.out 0
                                      have hfz37_1 := blk_frozen BK171.out 1
                                      have hfz37_2 := blk_frozen BK171.out 2
                                      have hfz37_3 := blk_frozen BK171.out 3
                                      have p31 : 0 ≤ (x6_3 : Int) := of_decide_eq_true (by first | (with_reducible assumption) | assumption)
                                      have q31 : x6_3 < (a0.size : Int) := of_decide_eq_true (by first | (with_reducible assumption) | assumption)
                                      have hx31 := bt_at a0 x6_3
                                      replace p31 := eq_true p31
                                      replace q31 := eq_true q31
                                      have p34 : 0 ≤ (x6_3 : Int) := of_decide_eq_true (by first | (with_reducible assumption) | assumption)
                                      have q34 : x6_3 < (a0.size : Int) := of_decide_eq_true (by first | (with_reducible assumption) | assumption)
                                      have hx34 := bt_at a0 x6_3
                                      replace p34 := eq_true p34
                                      replace q34 := eq_true q34
                                      go_wp2
                                      repeat (go_quiet (fail); try go_wp2)
                                      go_ret
                                      exact ⟨by first | rfl | (simp [errW_none, errW_some] <;> rfl) | (simp [*, errW_none, errW_some] <;> rfl), by repeat (first | (with_reducible first | exact HB.out | apply below_alloc | apply pw_below_drewN | apply below_drew1 | refine below_set ?_ GE171.out) | exact HB.out)⟩
                                · rw [if_neg c30] at H
                                  exact absurd H (by simp)
                              · rw [if_neg c29] at H
                                exact absurd H (by simp)
                            · rw [if_neg c28] at H
                              have c28b0 : decide (x6_3 < ((rd_T35 t165 x32_1).f3)) = false := decide_eq_false c28
                              clear c28
                              have H' := Aside0.mk H
                              clear H
                              have hcz38_0 : wr.cell? ⟨gb171, 0, none⟩ = some (.int .i64 ((rd_T35 t165 x32_1).f0)) := (blk_cell BK171.out 0).trans rfl
                              have hcz38_1 : wr.cell? ⟨gb171, 1, none⟩ = some (.string ((rd_T35 t165 x32_1).f1)) := (blk_cell BK171.out 1).trans rfl
                              have hcz38_2 : wr.cell? ⟨gb171, 2, none⟩ = some (.int .i64 ((rd_T35 t165 x32_1).f2)) := (blk_cell BK171.out 2).trans rfl
                              have hcz38_3 : wr.cell? ⟨gb171, 3, none⟩ = some (.int .i64 ((rd_T35 t165 x32_1).f3)) := (blk_cell BK171.out 3).trans rfl
                              have hfz38_0 := blk_frozen BK171.out 0
                              have hfz38_1 := blk_frozen BK171.out 1
                              have hfz38_2 := blk_frozen BK171.out 2
                              have hfz38_3 := blk_frozen BK171.out 3
                              go_wp2
                              repeat (go_quiet (fail); try go_wp2)
                              go_roundg k3
                              case measure => have := HK1.out; have := HJ13.out; have := HK3.out; omega
                              case rel => exact ⟨(wrap64 (x6_3 + (((rd_T35 t165 x32_1).f1).size : Int))), (wrap64 (x32_1 + 1)), (by first | rfl | (simp; done) | (simp [*]; done)), (by first | rfl | (simp; done) | (simp [*]; done)), H', ⟨by have := HK1.out; have := HJ13.out; have := HK3.out; omega⟩, ⟨by (with_reducible repeat (first | apply Kd.R_alloc | apply Kd.R_drewN | apply Kd.R_drew)); exact Kd.R_mono HO_30.out (fun _ hk => trivial)⟩, ⟨by repeat (first | (with_reducible first | exact HB.out | apply below_alloc | apply pw_below_drewN | apply below_drew1 | refine below_set ?_ GE171.out) | exact HB.out)⟩⟩
                · rw [if_neg c13] at H
                  exact absurd H (by simp)
              · rw [if_neg c12] at H
                exact absurd H (by simp)
            · rw [if_neg c11] at H
              have c11b0 : decide (x32_1 < (t165.length : Int)) = false := decide_eq_false c11
              clear c11
              have H' := Aside0.mk H
              clear H
              go_wp2
              repeat (go_quiet (fail); try go_wp2)
              go_loopg [6] k1 (fun kq v6 w' => ∃ (x6_2 : Int), v6 = .int .i64 x6_2 ∧ Aside0 (replevinlaw01_LexPlaces.l2 kq a0 x6_2 = some r) ∧ Aside0 (kq ≤ k1) ∧ Aside0 (Below w.heap.size w w'))
              case atStart => exact ⟨(x6_1), (by first | rfl | (simp; done) | (simp [*]; done)), H', ⟨Nat.le_refl _⟩, ⟨by repeat (first | (with_reducible first | exact HB.out | apply below_alloc | apply pw_below_drewN | apply below_drew1) | exact HB.out)⟩⟩
              case round =>
                clear H'
                try clear c1
                try clear p1
                try clear q1
                try clear hx1
                try clear c2
                try clear p2
                try clear c3
                try clear p3
                try clear q3
                try clear hx3
                try clear c4
                try clear c4b0
                try clear c4b1
                try clear c5
                try clear p6
                try clear c7
                try clear c7b0
                try clear c7b1
                try clear c11
                try clear c11b0
                try clear c12
                try clear c12b0
                try clear c13
                try clear c13b0
                try clear c17
                try clear c17b0
                try clear p17
                try clear q17
                try clear hx17
                try clear c19
                try clear c19b0
                try clear c21
                try clear c21b0
                try clear c21b1
                try clear c22
                try clear c22b0
                try clear c22b1
                try clear c23
                try clear c23b0
                try clear c23b1
                try clear c24
                try clear c24b0
                try clear c24b1
                try clear c27
                try clear c28
                try clear c28b0
                try clear c29
                try clear c29b0
                try clear c30
                try clear c30b0
                try clear p31
                try clear q31
                try clear hx31
                try clear c32
                try clear c32b0
                try clear c32b1
                try clear p34
                try clear q34
                try clear hx34
                try clear c35
                try clear c35b0
                try clear c35b1
                try clear hcz16_0
                try clear hcz16_1
                try clear hcz16_2
                try clear hcz16_3
                try clear hcz18_0
                try clear hcz18_1
                try clear hcz18_2
                try clear hcz18_3
                try clear hcz20_0
                try clear hcz20_1
                try clear hcz20_2
                try clear hcz20_3
                try clear hcz25_0
                try clear hcz25_1
                try clear hcz25_2
                try clear hcz25_3
                try clear hcz26_0
                try clear hcz26_1
                try clear hcz26_2
                try clear hcz26_3
                try clear hcz33_0
                try clear hcz33_1
                try clear hcz33_2
                try clear hcz33_3
                try clear hcz36_0
                try clear hcz36_1
                try clear hcz36_2
                try clear hcz36_3
                try clear hcz37_0
                try clear hcz37_1
                try clear hcz37_2
                try clear hcz37_3
                try clear hcz38_0
                try clear hcz38_1
                try clear hcz38_2
                try clear hcz38_3
                try clear hfz16_0
                try clear hfz16_1
                try clear hfz16_2
                try clear hfz16_3
                try clear hfz18_0
                try clear hfz18_1
                try clear hfz18_2
                try clear hfz18_3
                try clear hfz20_0
                try clear hfz20_1
                try clear hfz20_2
                try clear hfz20_3
                try clear hfz25_0
                try clear hfz25_1
                try clear hfz25_2
                try clear hfz25_3
                try clear hfz26_0
                try clear hfz26_1
                try clear hfz26_2
                try clear hfz26_3
                try clear hfz33_0
                try clear hfz33_1
                try clear hfz33_2
                try clear hfz33_3
                try clear hfz36_0
                try clear hfz36_1
                try clear hfz36_2
                try clear hfz36_3
                try clear hfz37_0
                try clear hfz37_1
                try clear hfz37_2
                try clear hfz37_3
                try clear hfz38_0
                try clear hfz38_1
                try clear hfz38_2
                try clear hfz38_3
                try clear hx170_0
                try clear hx170_1
                try clear hx170_2
                try clear hx170_3
                try clear p1
                try clear p17
                try clear p170
                try clear p2
                try clear p31
                try clear p34
                try clear p6
                try clear q1
                try clear q17
                try clear q170
                try clear q31
                try clear q34
                obtain ⟨x6_2, rfl, HA, HK2, HB⟩ := hrel
                cases gk with
                | zero => exact absurd HA.out (by simp [replevinlaw01_LexPlaces.l2])
                | succ k2 =>
                  have H := HA.out
                  clear HA
                  simp only [replevinlaw01_LexPlaces.l2] at H
                  by_cases c39 : x6_2 < (a0.size : Int)
                  · rw [if_pos c39] at H
                    have c39b0 : decide (x6_2 < (a0.size : Int)) = true := decide_eq_true c39
                    clear c39
                    by_cases c40 : 0 ≤ x6_2
                    · rw [if_pos c40] at H
                      have c40b0 : decide (0 ≤ x6_2) = true := decide_eq_true c40
                      clear c40
                      by_cases c42 : (bt a0 x6_2) = 32
                      · rw [if_pos c42] at H
                        have c42b0 : ((bt a0 x6_2) == 32) = true := beq_iff_eq.mpr c42
                        have c42b1 : ((bt a0 x6_2) != 32) = false := bne_eq_false_iff_eq.mpr c42
                        clear c42
                        have H' := Aside0.mk H
                        clear H
                        have p41 : 0 ≤ (x6_2 : Int) := of_decide_eq_true (by first | (with_reducible assumption) | assumption)
                        have q41 : x6_2 < (a0.size : Int) := of_decide_eq_true (by first | (with_reducible assumption) | assumption)
                        have hx41 := bt_at a0 x6_2
                        replace p41 := eq_true p41
                        replace q41 := eq_true q41
                        go_wp2
                        repeat (go_quiet (fail); try go_wp2)
                        go_roundg k2
                        case measure => have := HK1.out; have := HK2.out; omega
                        case rel => exact ⟨(wrap64 (x6_2 + 1)), (by first | rfl | (simp; done) | (simp [*]; done)), H', ⟨by have := HK1.out; have := HK2.out; omega⟩, ⟨by repeat (first | (with_reducible first | exact HB.out | apply below_alloc | apply pw_below_drewN | apply below_drew1) | exact HB.out)⟩⟩
                      · rw [if_neg c42] at H
                        have c42b0 : ((bt a0 x6_2) == 32) = false := beq_eq_false_iff_ne.mpr c42
                        have c42b1 : ((bt a0 x6_2) != 32) = true := bne_iff_ne.mpr c42
                        by_cases c44 : (bt a0 x6_2) = 10
                        · rw [if_pos c44] at H
                          have c44b0 : ((bt a0 x6_2) == 10) = true := beq_iff_eq.mpr c44
                          have c44b1 : ((bt a0 x6_2) != 10) = false := bne_eq_false_iff_eq.mpr c44
                          clear c44
                          have H' := Aside0.mk H
                          clear H
                          have p41 : 0 ≤ (x6_2 : Int) := of_decide_eq_true (by first | (with_reducible assumption) | assumption)
                          have q41 : x6_2 < (a0.size : Int) := of_decide_eq_true (by first | (with_reducible assumption) | assumption)
                          have hx41 := bt_at a0 x6_2
                          replace p41 := eq_true p41
                          replace q41 := eq_true q41
                          have p43 : 0 ≤ (x6_2 : Int) := of_decide_eq_true (by first | (with_reducible assumption) | assumption)
                          have q43 : x6_2 < (a0.size : Int) := of_decide_eq_true (by first | (with_reducible assumption) | assumption)
                          have hx43 := bt_at a0 x6_2
                          replace p43 := eq_true p43
                          replace q43 := eq_true q43
                          go_wp2
                          repeat (go_quiet (fail); try go_wp2)
                          go_roundg k2
                          case measure => have := HK1.out; have := HK2.out; omega
                          case rel => exact ⟨(wrap64 (x6_2 + 1)), (by first | rfl | (simp; done) | (simp [*]; done)), H', ⟨by have := HK1.out; have := HK2.out; omega⟩, ⟨by repeat (first | (with_reducible first | exact HB.out | apply below_alloc | apply pw_below_drewN | apply below_drew1) | exact HB.out)⟩⟩
                        · rw [if_neg c44] at H
                          have c44b0 : ((bt a0 x6_2) == 10) = false := beq_eq_false_iff_ne.mpr c44
                          have c44b1 : ((bt a0 x6_2) != 10) = true := bne_iff_ne.mpr c44
                          obtain rfl := Option.some.inj H
                          have p41 : 0 ≤ (x6_2 : Int) := of_decide_eq_true (by first | (with_reducible assumption) | assumption)
                          have q41 : x6_2 < (a0.size : Int) := of_decide_eq_true (by first | (with_reducible assumption) | assumption)
                          have hx41 := bt_at a0 x6_2
                          replace p41 := eq_true p41
                          replace q41 := eq_true q41
                          have p43 : 0 ≤ (x6_2 : Int) := of_decide_eq_true (by first | (with_reducible assumption) | assumption)
                          have q43 : x6_2 < (a0.size : Int) := of_decide_eq_true (by first | (with_reducible assumption) | assumption)
                          have hx43 := bt_at a0 x6_2
                          replace p43 := eq_true p43
                          replace q43 := eq_true q43
                          go_wp2
                          repeat (go_quiet (fail); try go_wp2)
                          go_ret
                          exact ⟨by first | rfl | (simp [errW_none, errW_some] <;> rfl) | (simp [*, errW_none, errW_some] <;> rfl), by repeat (first | (with_reducible first | exact HB.out | apply below_alloc | apply pw_below_drewN | apply below_drew1) | exact HB.out)⟩
                    · rw [if_neg c40] at H
                      exact absurd H (by simp)
                  · rw [if_neg c39] at H
                    have c39b0 : decide (x6_2 < (a0.size : Int)) = false := decide_eq_false c39
                    clear c39
                    obtain rfl := Option.some.inj H
                    go_wp2
                    repeat (go_quiet (fail); try go_wp2)
                    go_ret
                    exact ⟨by first | rfl | (simp [errW_none, errW_some] <;> rfl) | (simp [*, errW_none, errW_some] <;> rfl), by repeat (first | (with_reducible first | exact HB.out | apply below_alloc | apply pw_below_drewN | apply below_drew1) | exact HB.out)⟩
      · rw [if_neg c7] at H
        have c7b0 : (t167 == 0) = false := beq_eq_false_iff_ne.mpr c7
        have c7b1 : (t167 != 0) = true := bne_iff_ne.mpr c7
        by_cases c45 : t166 ≥ 0
        · rw [if_pos c45] at H
          have c45b0 : decide (0 ≤ t166) = true := decide_eq_true c45
          clear c45
          obtain rfl := Option.some.inj H
          go_enter Try.func5, Try.ntmps5
          go_wp2_with (first | (go_at_call 8; (with_reducible refine (replevinlaw01_awake.calls  true _ A2.out).mono ?_); rintro e w46 ⟨rfl, hb⟩; have n0_ := Aside0.mk (below_step (by repeat (first | (with_reducible first | exact HB.out | apply below_alloc | apply pw_below_drewN | apply below_drew1) | exact HB.out)) hb); clear HB; have HB := n0_; clear n0_; (try clear hb); (try clear hb2); (try clear hk); (try clear hi)) | (go_at_call 9; (with_reducible refine (lex_Lex.calls a0 t165 t166 t167 _ A6.out).mono ?_); rintro e w47 ⟨v168, rfl, ho0, hb⟩; have n0_ := Aside0.mk (Kd.R_lower ho0 (below_size (by repeat (first | (with_reducible first | exact HB.out | apply below_alloc | apply pw_below_drewN | apply below_drew1) | exact HB.out)))); have n1_ := Aside0.mk (below_step (by repeat (first | (with_reducible first | exact HB.out | apply below_alloc | apply pw_below_drewN | apply below_drew1) | exact HB.out)) hb); clear HB; have HO169 := n0_; have HB := n1_; clear n0_ n1_; (try clear hb); (try clear hb2); (try clear hk); (try clear hi); (try clear ho0)))
          repeat (go_quiet (first | (go_at_call 8; (with_reducible refine (replevinlaw01_awake.calls  true _ A2.out).mono ?_); rintro e w46 ⟨rfl, hb⟩; have n0_ := Aside0.mk (below_step (by repeat (first | (with_reducible first | exact HB.out | apply below_alloc | apply pw_below_drewN | apply below_drew1) | exact HB.out)) hb); clear HB; have HB := n0_; clear n0_; (try clear hb); (try clear hb2); (try clear hk); (try clear hi)) | (go_at_call 9; (with_reducible refine (lex_Lex.calls a0 t165 t166 t167 _ A6.out).mono ?_); rintro e w47 ⟨v168, rfl, ho0, hb⟩; have n0_ := Aside0.mk (Kd.R_lower ho0 (below_size (by repeat (first | (with_reducible first | exact HB.out | apply below_alloc | apply pw_below_drewN | apply below_drew1) | exact HB.out)))); have n1_ := Aside0.mk (below_step (by repeat (first | (with_reducible first | exact HB.out | apply below_alloc | apply pw_below_drewN | apply below_drew1) | exact HB.out)) hb); clear HB; have HO169 := n0_; have HB := n1_; clear n0_ n1_; (try clear hb); (try clear hb2); (try clear hk); (try clear hi); (try clear ho0))); try go_wp2_with (first | (go_at_call 8; (with_reducible refine (replevinlaw01_awake.calls  true _ A2.out).mono ?_); rintro e w46 ⟨rfl, hb⟩; have n0_ := Aside0.mk (below_step (by repeat (first | (with_reducible first | exact HB.out | apply below_alloc | apply pw_below_drewN | apply below_drew1) | exact HB.out)) hb); clear HB; have HB := n0_; clear n0_; (try clear hb); (try clear hb2); (try clear hk); (try clear hi)) | (go_at_call 9; (with_reducible refine (lex_Lex.calls a0 t165 t166 t167 _ A6.out).mono ?_); rintro e w47 ⟨v168, rfl, ho0, hb⟩; have n0_ := Aside0.mk (Kd.R_lower ho0 (below_size (by repeat (first | (with_reducible first | exact HB.out | apply below_alloc | apply pw_below_drewN | apply below_drew1) | exact HB.out)))); have n1_ := Aside0.mk (below_step (by repeat (first | (with_reducible first | exact HB.out | apply below_alloc | apply pw_below_drewN | apply below_drew1) | exact HB.out)) hb); clear HB; have HO169 := n0_; have HB := n1_; clear n0_ n1_; (try clear hb); (try clear hb2); (try clear hk); (try clear hi); (try clear ho0))))
          go_ret
          exact ⟨by first | rfl | (simp [errW_none, errW_some] <;> rfl) | (simp [*, errW_none, errW_some] <;> rfl), by repeat (first | (with_reducible first | exact HB.out | apply below_alloc | apply pw_below_drewN | apply below_drew1) | exact HB.out)⟩
        · rw [if_neg c45] at H
          have c45b0 : decide (0 ≤ t166) = false := decide_eq_false c45
          clear c45
          obtain rfl := Option.some.inj H
          go_enter Try.func5, Try.ntmps5
          go_wp2_with (first | (go_at_call 8; (with_reducible refine (replevinlaw01_awake.calls  true _ A2.out).mono ?_); rintro e w48 ⟨rfl, hb⟩; have n0_ := Aside0.mk (below_step (by repeat (first | (with_reducible first | exact HB.out | apply below_alloc | apply pw_below_drewN | apply below_drew1) | exact HB.out)) hb); clear HB; have HB := n0_; clear n0_; (try clear hb); (try clear hb2); (try clear hk); (try clear hi)) | (go_at_call 9; (with_reducible refine (lex_Lex.calls a0 t165 t166 t167 _ A6.out).mono ?_); rintro e w49 ⟨v168, rfl, ho0, hb⟩; have n0_ := Aside0.mk (Kd.R_lower ho0 (below_size (by repeat (first | (with_reducible first | exact HB.out | apply below_alloc | apply pw_below_drewN | apply below_drew1) | exact HB.out)))); have n1_ := Aside0.mk (below_step (by repeat (first | (with_reducible first | exact HB.out | apply below_alloc | apply pw_below_drewN | apply below_drew1) | exact HB.out)) hb); clear HB; have HO169 := n0_; have HB := n1_; clear n0_ n1_; (try clear hb); (try clear hb2); (try clear hk); (try clear hi); (try clear ho0)))
          repeat (go_quiet (first | (go_at_call 8; (with_reducible refine (replevinlaw01_awake.calls  true _ A2.out).mono ?_); rintro e w48 ⟨rfl, hb⟩; have n0_ := Aside0.mk (below_step (by repeat (first | (with_reducible first | exact HB.out | apply below_alloc | apply pw_below_drewN | apply below_drew1) | exact HB.out)) hb); clear HB; have HB := n0_; clear n0_; (try clear hb); (try clear hb2); (try clear hk); (try clear hi)) | (go_at_call 9; (with_reducible refine (lex_Lex.calls a0 t165 t166 t167 _ A6.out).mono ?_); rintro e w49 ⟨v168, rfl, ho0, hb⟩; have n0_ := Aside0.mk (Kd.R_lower ho0 (below_size (by repeat (first | (with_reducible first | exact HB.out | apply below_alloc | apply pw_below_drewN | apply below_drew1) | exact HB.out)))); have n1_ := Aside0.mk (below_step (by repeat (first | (with_reducible first | exact HB.out | apply below_alloc | apply pw_below_drewN | apply below_drew1) | exact HB.out)) hb); clear HB; have HO169 := n0_; have HB := n1_; clear n0_ n1_; (try clear hb); (try clear hb2); (try clear hk); (try clear hi); (try clear ho0))); try go_wp2_with (first | (go_at_call 8; (with_reducible refine (replevinlaw01_awake.calls  true _ A2.out).mono ?_); rintro e w48 ⟨rfl, hb⟩; have n0_ := Aside0.mk (below_step (by repeat (first | (with_reducible first | exact HB.out | apply below_alloc | apply pw_below_drewN | apply below_drew1) | exact HB.out)) hb); clear HB; have HB := n0_; clear n0_; (try clear hb); (try clear hb2); (try clear hk); (try clear hi)) | (go_at_call 9; (with_reducible refine (lex_Lex.calls a0 t165 t166 t167 _ A6.out).mono ?_); rintro e w49 ⟨v168, rfl, ho0, hb⟩; have n0_ := Aside0.mk (Kd.R_lower ho0 (below_size (by repeat (first | (with_reducible first | exact HB.out | apply below_alloc | apply pw_below_drewN | apply below_drew1) | exact HB.out)))); have n1_ := Aside0.mk (below_step (by repeat (first | (with_reducible first | exact HB.out | apply below_alloc | apply pw_below_drewN | apply below_drew1) | exact HB.out)) hb); clear HB; have HO169 := n0_; have HB := n1_; clear n0_ n1_; (try clear hb); (try clear hb2); (try clear hk); (try clear hi); (try clear ho0))))
          go_ret
          exact ⟨by first | rfl | (simp [errW_none, errW_some] <;> rfl) | (simp [*, errW_none, errW_some] <;> rfl), by repeat (first | (with_reducible first | exact HB.out | apply below_alloc | apply pw_below_drewN | apply below_drew1) | exact HB.out)⟩
  · replace c3 := Bool.eq_false_iff.mpr c3
    subst c3
    have H1 : (some false) = some r := by rw [if_neg (show ¬ (false = true) by decide)] at H; exact H
    clear H
    have H := H1
    clear H1
    obtain rfl := Option.some.inj H
    go_enter Try.func5, Try.ntmps5
    go_wp2_with (first | (go_at_call 8; (with_reducible refine (replevinlaw01_awake.calls  false _ A2.out).mono ?_); rintro e w50 ⟨rfl, hb⟩; have n0_ := Aside0.mk (below_step (by repeat (first | (with_reducible first | exact HB.out | apply below_alloc | apply pw_below_drewN | apply below_drew1) | exact HB.out)) hb); clear HB; have HB := n0_; clear n0_; (try clear hb); (try clear hb2); (try clear hk); (try clear hi)))
    repeat (go_quiet (first | (go_at_call 8; (with_reducible refine (replevinlaw01_awake.calls  false _ A2.out).mono ?_); rintro e w50 ⟨rfl, hb⟩; have n0_ := Aside0.mk (below_step (by repeat (first | (with_reducible first | exact HB.out | apply below_alloc | apply pw_below_drewN | apply below_drew1) | exact HB.out)) hb); clear HB; have HB := n0_; clear n0_; (try clear hb); (try clear hb2); (try clear hk); (try clear hi))); try go_wp2_with (first | (go_at_call 8; (with_reducible refine (replevinlaw01_awake.calls  false _ A2.out).mono ?_); rintro e w50 ⟨rfl, hb⟩; have n0_ := Aside0.mk (below_step (by repeat (first | (with_reducible first | exact HB.out | apply below_alloc | apply pw_below_drewN | apply below_drew1) | exact HB.out)) hb); clear HB; have HB := n0_; clear n0_; (try clear hb); (try clear hb2); (try clear hk); (try clear hi))))
    go_ret
    exact ⟨by first | rfl | (simp [errW_none, errW_some] <;> rfl) | (simp [*, errW_none, errW_some] <;> rfl), by repeat (first | (with_reducible first | exact HB.out | apply below_alloc | apply pw_below_drewN | apply below_drew1) | exact HB.out)⟩

/-- THE ONE PURE STATEMENT of replevinlaw01_LexPlaces: yours. -/
def replevinlaw01_LexPlaces.Pure : Prop := ∀ (a0 : ByteArray), a0.size ≤ 140737488351232 → ∃ k, replevinlaw01_LexPlaces.f k a0 = some true
theorem replevinlaw01_LexPlaces.walk (P : replevinlaw01_LexPlaces.Pure) (a0 : ByteArray) (w : World) (w0 : a0.size ≤ 140737488351232) :
    Calls Try.prog 5 #[.string a0] w fun e w' => e = .returned (.bool true) ∧ Below w.heap.size w w' := by
  obtain ⟨k, h⟩ := P a0 w0
  refine (replevinlaw01_LexPlaces.calls k a0 true w h).mono ?_
  rintro e w' ⟨rfl, hd⟩
  exact ⟨rfl, hd⟩

end Go.Proofs.Ytaempeleddamlaa.P
