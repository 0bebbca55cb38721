-- PRINTED by print.py (a twelfth state) out of the translation. Not trusted: Lean checks it.
import Derived.Test.YtaempeleddamlaaP0
import Derived.Test.YtaempeleddamlaaLexZ
namespace Go.Proofs.Ytaempeleddamlaa.P
open Go.RowKit Go.Proofs.YtaempeleddamlaaW.PrintWords Go.Proofs.YtaempeleddamlaaW.PrintLast Go.Proofs.YtaempeleddamlaaW.PrintMore
attribute [local go_sem] max2_int min2_int max_two min_two max_three min_three max_four min_four   -- for this text's walks alone
set_option linter.unusedVariables false
set_option linter.unusedSimpArgs false

/-! ### replevinlaw01_LexBack: function 4 -/
mutual
def replevinlaw01_LexBack.j0 : Nat → List (S35) → ByteArray → List (S35) → Bool → Option (Bool)
  | 0, _, _, _, _ => none
  | k + 1, x3, x6, x7, x49 => if x49 = true then (some false) else (replevinlaw01_LexBack.l0 k x3 x6 x7 (x7.length : Int) 0)
def replevinlaw01_LexBack.l0 : Nat → List (S35) → ByteArray → List (S35) → Int → Int → Option (Bool)
  | 0, _, _, _, _, _ => none
  | k + 1, x3, x6, x7, x51, x52 => if x52 < x51 then (if 0 ≤ x52 then (if x52 < (x7.length : Int) then (if x52 < (x3.length : Int) then (if ((rd_T35 x7 x52).f0) = ((rd_T35 x3 x52).f0) then (if ((rd_T35 x7 x52).f1).toList = ((rd_T35 x3 x52).f1).toList then (if ((rd_T35 x7 x52).f2) = ((rd_T35 x3 x52).f2) then (if 0 ≤ ((rd_T35 x7 x52).f3) then (if ((rd_T35 x7 x52).f3) ≤ (wrap64 (((rd_T35 x7 x52).f3) + (((rd_T35 x7 x52).f1).size : Int))) then (if (wrap64 (((rd_T35 x7 x52).f3) + (((rd_T35 x7 x52).f1).size : Int))) ≤ (x6.size : Int) then (if (x6.extract (((rd_T35 x7 x52).f3) : Int).toNat ((wrap64 (((rd_T35 x7 x52).f3) + (((rd_T35 x7 x52).f1).size : Int))) : Int).toNat).toList = ((rd_T35 x7 x52).f1).toList then (replevinlaw01_LexBack.l0 k x3 x6 x7 x51 (wrap64 (x52 + 1))) else (some false)) else (none)) else (none)) else (none)) else (some false)) else (some false)) else (some false)) else (none)) else (none)) else (none)) else (some true)
end
def replevinlaw01_LexBack.f (k : Nat) (a0 : ByteArray) : Option (Bool) := (replevinlaw01_awake.f).bind fun t141 => (if t141 = true then (if (a0.size : Int) > 4096 then (some true) else ((lex_Lex.f a0).bind fun bt142 => (if bt142.2.2 = 0 then ((lex_Join.f bt142.1).bind fun t147 => ((lex_Lex.f t147).bind fun bt148 => (if bt148.2.2 = 0 then (if (bt148.1.length : Int) = (bt142.1.length : Int) then ((lex_Join.f bt148.1).bind fun t153 => (replevinlaw01_LexBack.j0 k bt142.1 t147 bt148.1 (t153.toList != t147.toList))) else (replevinlaw01_LexBack.j0 k bt142.1 t147 bt148.1 true)) else (replevinlaw01_LexBack.j0 k bt142.1 t147 bt148.1 true)))) else (some ((bt142.1.length : Int) == 0))))) else (some false))
theorem replevinlaw01_LexBack.mono_l : ∀ k, (∀ y0 y1 y2 y3, LeO (replevinlaw01_LexBack.j0 k y0 y1 y2 y3) (replevinlaw01_LexBack.j0 (k + 1) y0 y1 y2 y3)) ∧ (∀ y0 y1 y2 y3 y4, LeO (replevinlaw01_LexBack.l0 k y0 y1 y2 y3 y4) (replevinlaw01_LexBack.l0 (k + 1) y0 y1 y2 y3 y4))
  | 0 => ⟨fun _ _ _ _ r h => by simp [replevinlaw01_LexBack.j0] at h, fun _ _ _ _ _ r h => by simp [replevinlaw01_LexBack.l0] at h⟩
  | k + 1 => by
    obtain ⟨ih0, ih1⟩ := replevinlaw01_LexBack.mono_l k
    refine ⟨?_, ?_⟩
    · intro y0 y1 y2 y3
      unfold replevinlaw01_LexBack.j0
      repeat' first
      | (with_reducible exact ih0 _ _ _ _)
      | (with_reducible exact ih1 _ _ _ _ _)
      | (with_reducible exact LeO.refl _)
      | (with_reducible exact LeO.none _)
      | (with_reducible refine LeO.ite ?_ ?_)
      | (with_reducible refine LeO.bind ?_ (fun _ => ?_))
      | exact ih0 _ _ _ _
      | exact ih1 _ _ _ _ _
      | exact LeO.none _
      | refine LeO.ite ?_ ?_
      | refine LeO.bind ?_ (fun _ => ?_)
    · intro y0 y1 y2 y3 y4
      unfold replevinlaw01_LexBack.l0
      repeat' first
      | (with_reducible exact ih0 _ _ _ _)
      | (with_reducible exact ih1 _ _ _ _ _)
      | (with_reducible exact LeO.refl _)
      | (with_reducible exact LeO.none _)
      | (with_reducible refine LeO.ite ?_ ?_)
      | (with_reducible refine LeO.bind ?_ (fun _ => ?_))
      | exact ih0 _ _ _ _
      | exact ih1 _ _ _ _ _
      | exact LeO.none _
      | refine LeO.ite ?_ ?_
      | refine LeO.bind ?_ (fun _ => ?_)
theorem replevinlaw01_LexBack.mono : ∀ a0 k, LeO (replevinlaw01_LexBack.f k a0) (replevinlaw01_LexBack.f (k + 1) a0) := by
  intro a0 k
  obtain ⟨ih0, ih1⟩ := replevinlaw01_LexBack.mono_l k
  unfold replevinlaw01_LexBack.f
  repeat' first
      | (with_reducible exact ih0 _ _ _ _)
      | (with_reducible exact ih1 _ _ _ _ _)
      | (with_reducible exact LeO.refl _)
      | (with_reducible exact LeO.none _)
      | (with_reducible refine LeO.ite ?_ ?_)
      | (with_reducible refine LeO.bind ?_ (fun _ => ?_))
      | exact ih0 _ _ _ _
      | exact ih1 _ _ _ _ _
      | exact LeO.none _
      | refine LeO.ite ?_ ?_
      | refine LeO.bind ?_ (fun _ => ?_)
set_option maxHeartbeats 8000000 in
set_option maxRecDepth 100000 in
theorem replevinlaw01_LexBack.calls (k : Nat) (a0 : ByteArray) (r : Bool) (w : World) (h : replevinlaw01_LexBack.f k a0 = some r) :
    Calls Try.prog 4 #[.string a0] w fun e w' => e = .returned (.bool r) ∧ Below w.heap.size w w' := by
  have HB := Aside0.mk (Below.refl w.heap.size w)
  have H : ((replevinlaw01_awake.f).bind fun t141 => (if t141 = true then (if (a0.size : Int) > 4096 then (some true) else ((lex_Lex.f a0).bind fun bt142 => (if bt142.2.2 = 0 then ((lex_Join.f bt142.1).bind fun t147 => ((lex_Lex.f t147).bind fun bt148 => (if bt148.2.2 = 0 then (if (bt148.1.length : Int) = (bt142.1.length : Int) then ((lex_Join.f bt148.1).bind fun t153 => (replevinlaw01_LexBack.j0 k bt142.1 t147 bt148.1 (t153.toList != t147.toList))) else (replevinlaw01_LexBack.j0 k bt142.1 t147 bt148.1 true)) else (replevinlaw01_LexBack.j0 k bt142.1 t147 bt148.1 true)))) else (some ((bt142.1.length : Int) == 0))))) else (some false))) = some r := h
  clear h
  replace H := Option.bind_eq_some_iff.mp H
  obtain ⟨t141, A20, H⟩ := H
  replace H : (if t141 = true then (if (a0.size : Int) > 4096 then (some true) else ((lex_Lex.f a0).bind fun bt142 => (if bt142.2.2 = 0 then ((lex_Join.f bt142.1).bind fun t147 => ((lex_Lex.f t147).bind fun bt148 => (if bt148.2.2 = 0 then (if (bt148.1.length : Int) = (bt142.1.length : Int) then ((lex_Join.f bt148.1).bind fun t153 => (replevinlaw01_LexBack.j0 k bt142.1 t147 bt148.1 (t153.toList != t147.toList))) else (replevinlaw01_LexBack.j0 k bt142.1 t147 bt148.1 true)) else (replevinlaw01_LexBack.j0 k bt142.1 t147 bt148.1 true)))) else (some ((bt142.1.length : Int) == 0))))) else (some false)) = some r := H
  have A2 := Aside0.mk A20
  clear A20
  by_cases c3 : t141 = true
  · subst c3
    have H1 : (if (a0.size : Int) > 4096 then (some true) else ((lex_Lex.f a0).bind fun bt142 => (if bt142.2.2 = 0 then ((lex_Join.f bt142.1).bind fun t147 => ((lex_Lex.f t147).bind fun bt148 => (if bt148.2.2 = 0 then (if (bt148.1.length : Int) = (bt142.1.length : Int) then ((lex_Join.f bt148.1).bind fun t153 => (replevinlaw01_LexBack.j0 k bt142.1 t147 bt148.1 (t153.toList != t147.toList))) else (replevinlaw01_LexBack.j0 k bt142.1 t147 bt148.1 true)) else (replevinlaw01_LexBack.j0 k bt142.1 t147 bt148.1 true)))) else (some ((bt142.1.length : Int) == 0))))) = some r := by rw [if_pos rfl] at H; exact H
    clear H
    have H := H1
    clear H1
    by_cases c4 : (a0.size : Int) > 4096
    · rw [if_pos c4] at H
      have c4b0 : decide (4096 < (a0.size : Int)) = true := decide_eq_true c4
      have c4b1 : decide (4096 < a0.size) = true := decide_eq_true (by omega)
      clear c4
      obtain rfl := Option.some.inj H
      go_enter Try.func4, Try.ntmps4
      go_wp2_with (first | (go_at_call 8; (with_reducible refine (replevinlaw01_awake.calls  true _ A2.out).mono ?_); rintro e w5 ⟨rfl, hb⟩; have n0_ := Aside0.mk (below_step (by repeat (first | (with_reducible first | exact HB.out | apply below_alloc | apply pw_below_drewN | apply below_drew1) | exact HB.out)) hb); clear HB; have HB := n0_; clear n0_; (try clear hb); (try clear hb2); (try clear hk); (try clear hi)))
      repeat (go_quiet (first | (go_at_call 8; (with_reducible refine (replevinlaw01_awake.calls  true _ A2.out).mono ?_); rintro e w5 ⟨rfl, hb⟩; have n0_ := Aside0.mk (below_step (by repeat (first | (with_reducible first | exact HB.out | apply below_alloc | apply pw_below_drewN | apply below_drew1) | exact HB.out)) hb); clear HB; have HB := n0_; clear n0_; (try clear hb); (try clear hb2); (try clear hk); (try clear hi))); try go_wp2_with (first | (go_at_call 8; (with_reducible refine (replevinlaw01_awake.calls  true _ A2.out).mono ?_); rintro e w5 ⟨rfl, hb⟩; have n0_ := Aside0.mk (below_step (by repeat (first | (with_reducible first | exact HB.out | apply below_alloc | apply pw_below_drewN | apply below_drew1) | exact HB.out)) hb); clear HB; have HB := n0_; clear n0_; (try clear hb); (try clear hb2); (try clear hk); (try clear hi))))
      go_ret
      exact ⟨by first | rfl | (simp [errW_none, errW_some] <;> rfl) | (simp [*, errW_none, errW_some] <;> rfl), by repeat (first | (with_reducible first | exact HB.out | apply below_alloc | apply pw_below_drewN | apply below_drew1) | exact HB.out)⟩
    · rw [if_neg c4] at H
      have c4b0 : decide (4096 < (a0.size : Int)) = false := decide_eq_false c4
      have c4b1 : decide (4096 < a0.size) = false := decide_eq_false (by omega)
      clear c4
      replace H := Option.bind_eq_some_iff.mp H
      obtain ⟨⟨t142, t143, t144⟩, A60, H⟩ := H
      replace H : (if t144 = 0 then ((lex_Join.f t142).bind fun t147 => ((lex_Lex.f t147).bind fun bt148 => (if bt148.2.2 = 0 then (if (bt148.1.length : Int) = (t142.length : Int) then ((lex_Join.f bt148.1).bind fun t153 => (replevinlaw01_LexBack.j0 k t142 t147 bt148.1 (t153.toList != t147.toList))) else (replevinlaw01_LexBack.j0 k t142 t147 bt148.1 true)) else (replevinlaw01_LexBack.j0 k t142 t147 bt148.1 true)))) else (some ((t142.length : Int) == 0))) = some r := H
      have A6 := Aside0.mk A60
      clear A60
      by_cases c7 : t144 = 0
      · rw [if_pos c7] at H
        have c7b0 : (t144 == 0) = true := beq_iff_eq.mpr c7
        have c7b1 : (t144 != 0) = false := bne_eq_false_iff_eq.mpr c7
        clear c7
        replace H := Option.bind_eq_some_iff.mp H
        obtain ⟨t147, A80, H⟩ := H
        replace H : ((lex_Lex.f t147).bind fun bt148 => (if bt148.2.2 = 0 then (if (bt148.1.length : Int) = (t142.length : Int) then ((lex_Join.f bt148.1).bind fun t153 => (replevinlaw01_LexBack.j0 k t142 t147 bt148.1 (t153.toList != t147.toList))) else (replevinlaw01_LexBack.j0 k t142 t147 bt148.1 true)) else (replevinlaw01_LexBack.j0 k t142 t147 bt148.1 true))) = some r := H
        have A8 := Aside0.mk A80
        clear A80
        replace H := Option.bind_eq_some_iff.mp H
        obtain ⟨⟨t148, t149, t150⟩, A90, H⟩ := H
        replace H : (if t150 = 0 then (if (t148.length : Int) = (t142.length : Int) then ((lex_Join.f t148).bind fun t153 => (replevinlaw01_LexBack.j0 k t142 t147 t148 (t153.toList != t147.toList))) else (replevinlaw01_LexBack.j0 k t142 t147 t148 true)) else (replevinlaw01_LexBack.j0 k t142 t147 t148 true)) = some r := H
        have A9 := Aside0.mk A90
        clear A90
        have HC10 := Aside0.mk H
        clear H
        go_enter Try.func4, Try.ntmps4
        go_upto_region 10 with (first | (go_at_call 8; (with_reducible refine (replevinlaw01_awake.calls  true _ A2.out).mono ?_); rintro e w11 ⟨rfl, hb⟩; have n0_ := Aside0.mk (below_step (by repeat (first | (with_reducible first | exact HB.out | apply below_alloc | apply pw_below_drewN | apply below_drew1) | exact HB.out)) hb); clear HB; have HB := n0_; clear n0_; (try clear hb); (try clear hb2); (try clear hk); (try clear hi)) | (go_at_call 9; (with_reducible refine (lex_Lex.calls a0 t142 t143 t144 _ A6.out).mono ?_); rintro e w12 ⟨v145, rfl, ho0, hb⟩; have n0_ := Aside0.mk (Kd.R_lower ho0 (below_size (by repeat (first | (with_reducible first | exact HB.out | apply below_alloc | apply pw_below_drewN | apply below_drew1) | exact HB.out)))); have n1_ := Aside0.mk (below_step (by repeat (first | (with_reducible first | exact HB.out | apply below_alloc | apply pw_below_drewN | apply below_drew1) | exact HB.out)) hb); clear HB; have HO146 := n0_; have HB := n1_; clear n0_ n1_; (try clear hb); (try clear hb2); (try clear hk); (try clear hi); (try clear ho0); obtain ⟨Ao13, co13, eo13⟩ := Kd.R_slice HO146.out; subst eo13) | (go_at_call 15; (with_reducible refine (lex_Join.calls _ _ t142 t147 _ ?side1 ?side2 A8.out).mono ?_); (case side1 => repeat (first | exact (Kd.R_reads' HO146.out).2.2 | (with_reducible refine Kd.C_alloc ?_ _) | (with_reducible refine Kd.C_drewN ?_ _) | (with_reducible refine Kd.C_drew ?_))); (case side2 => exact (Kd.R_reads' HO146.out).2.1); rintro e w14 ⟨rfl, hb⟩; have n0_ := Aside0.mk (Kd.R_below (by (with_reducible repeat (first | apply Kd.R_alloc | apply Kd.R_drewN | apply Kd.R_drew)); exact HO146.out) hb); have n1_ := Aside0.mk (below_step (by repeat (first | (with_reducible first | exact HB.out | apply below_alloc | apply pw_below_drewN | apply below_drew1) | exact HB.out)) hb); clear HO146; clear HB; have HO146 := n0_; have HB := n1_; clear n0_ n1_; (try clear hb); (try clear hb2); (try clear hk); (try clear hi)) | (go_at_call 9; (with_reducible refine (lex_Lex.calls t147 t148 t149 t150 _ A9.out).mono ?_); rintro e w15 ⟨v151, rfl, ho0, hb⟩; have n0_ := Aside0.mk (Kd.R_elder' (by (with_reducible repeat (first | apply Kd.R_alloc | apply Kd.R_drewN | apply Kd.R_drew)); exact HO146.out) (Kd.R_base ho0) hb); have n1_ := Aside0.mk (Kd.R_lower (Kd.R_new' ho0 (Kd.R_lt (by (with_reducible repeat (first | apply Kd.R_alloc | apply Kd.R_drewN | apply Kd.R_drew)); exact HO146.out))) (below_size (by repeat (first | (with_reducible first | exact HB.out | apply below_alloc | apply pw_below_drewN | apply below_drew1) | exact HB.out)))); have n2_ := Aside0.mk (below_step (by repeat (first | (with_reducible first | exact HB.out | apply below_alloc | apply pw_below_drewN | apply below_drew1) | exact HB.out)) hb); clear HO146; clear HB; have HO146 := n0_; have HO152 := n1_; have HB := n2_; clear n0_ n1_ n2_; (try clear hb); (try clear hb2); (try clear hk); (try clear hi); (try clear ho0)))
        repeat (go_quiet (first | (go_at_call 8; (with_reducible refine (replevinlaw01_awake.calls  true _ A2.out).mono ?_); rintro e w11 ⟨rfl, hb⟩; have n0_ := Aside0.mk (below_step (by repeat (first | (with_reducible first | exact HB.out | apply below_alloc | apply pw_below_drewN | apply below_drew1) | exact HB.out)) hb); clear HB; have HB := n0_; clear n0_; (try clear hb); (try clear hb2); (try clear hk); (try clear hi)) | (go_at_call 9; (with_reducible refine (lex_Lex.calls a0 t142 t143 t144 _ A6.out).mono ?_); rintro e w12 ⟨v145, rfl, ho0, hb⟩; have n0_ := Aside0.mk (Kd.R_lower ho0 (below_size (by repeat (first | (with_reducible first | exact HB.out | apply below_alloc | apply pw_below_drewN | apply below_drew1) | exact HB.out)))); have n1_ := Aside0.mk (below_step (by repeat (first | (with_reducible first | exact HB.out | apply below_alloc | apply pw_below_drewN | apply below_drew1) | exact HB.out)) hb); clear HB; have HO146 := n0_; have HB := n1_; clear n0_ n1_; (try clear hb); (try clear hb2); (try clear hk); (try clear hi); (try clear ho0); obtain ⟨Ao13, co13, eo13⟩ := Kd.R_slice HO146.out; subst eo13) | (go_at_call 15; (with_reducible refine (lex_Join.calls _ _ t142 t147 _ ?side1 ?side2 A8.out).mono ?_); (case side1 => repeat (first | exact (Kd.R_reads' HO146.out).2.2 | (with_reducible refine Kd.C_alloc ?_ _) | (with_reducible refine Kd.C_drewN ?_ _) | (with_reducible refine Kd.C_drew ?_))); (case side2 => exact (Kd.R_reads' HO146.out).2.1); rintro e w14 ⟨rfl, hb⟩; have n0_ := Aside0.mk (Kd.R_below (by (with_reducible repeat (first | apply Kd.R_alloc | apply Kd.R_drewN | apply Kd.R_drew)); exact HO146.out) hb); have n1_ := Aside0.mk (below_step (by repeat (first | (with_reducible first | exact HB.out | apply below_alloc | apply pw_below_drewN | apply below_drew1) | exact HB.out)) hb); clear HO146; clear HB; have HO146 := n0_; have HB := n1_; clear n0_ n1_; (try clear hb); (try clear hb2); (try clear hk); (try clear hi)) | (go_at_call 9; (with_reducible refine (lex_Lex.calls t147 t148 t149 t150 _ A9.out).mono ?_); rintro e w15 ⟨v151, rfl, ho0, hb⟩; have n0_ := Aside0.mk (Kd.R_elder' (by (with_reducible repeat (first | apply Kd.R_alloc | apply Kd.R_drewN | apply Kd.R_drew)); exact HO146.out) (Kd.R_base ho0) hb); have n1_ := Aside0.mk (Kd.R_lower (Kd.R_new' ho0 (Kd.R_lt (by (with_reducible repeat (first | apply Kd.R_alloc | apply Kd.R_drewN | apply Kd.R_drew)); exact HO146.out))) (below_size (by repeat (first | (with_reducible first | exact HB.out | apply below_alloc | apply pw_below_drewN | apply below_drew1) | exact HB.out)))); have n2_ := Aside0.mk (below_step (by repeat (first | (with_reducible first | exact HB.out | apply below_alloc | apply pw_below_drewN | apply below_drew1) | exact HB.out)) hb); clear HO146; clear HB; have HO146 := n0_; have HO152 := n1_; have HB := n2_; clear n0_ n1_ n2_; (try clear hb); (try clear hb2); (try clear hk); (try clear hi); (try clear ho0))); go_upto_region 10 with (first | (go_at_call 8; (with_reducible refine (replevinlaw01_awake.calls  true _ A2.out).mono ?_); rintro e w11 ⟨rfl, hb⟩; have n0_ := Aside0.mk (below_step (by repeat (first | (with_reducible first | exact HB.out | apply below_alloc | apply pw_below_drewN | apply below_drew1) | exact HB.out)) hb); clear HB; have HB := n0_; clear n0_; (try clear hb); (try clear hb2); (try clear hk); (try clear hi)) | (go_at_call 9; (with_reducible refine (lex_Lex.calls a0 t142 t143 t144 _ A6.out).mono ?_); rintro e w12 ⟨v145, rfl, ho0, hb⟩; have n0_ := Aside0.mk (Kd.R_lower ho0 (below_size (by repeat (first | (with_reducible first | exact HB.out | apply below_alloc | apply pw_below_drewN | apply below_drew1) | exact HB.out)))); have n1_ := Aside0.mk (below_step (by repeat (first | (with_reducible first | exact HB.out | apply below_alloc | apply pw_below_drewN | apply below_drew1) | exact HB.out)) hb); clear HB; have HO146 := n0_; have HB := n1_; clear n0_ n1_; (try clear hb); (try clear hb2); (try clear hk); (try clear hi); (try clear ho0); obtain ⟨Ao13, co13, eo13⟩ := Kd.R_slice HO146.out; subst eo13) | (go_at_call 15; (with_reducible refine (lex_Join.calls _ _ t142 t147 _ ?side1 ?side2 A8.out).mono ?_); (case side1 => repeat (first | exact (Kd.R_reads' HO146.out).2.2 | (with_reducible refine Kd.C_alloc ?_ _) | (with_reducible refine Kd.C_drewN ?_ _) | (with_reducible refine Kd.C_drew ?_))); (case side2 => exact (Kd.R_reads' HO146.out).2.1); rintro e w14 ⟨rfl, hb⟩; have n0_ := Aside0.mk (Kd.R_below (by (with_reducible repeat (first | apply Kd.R_alloc | apply Kd.R_drewN | apply Kd.R_drew)); exact HO146.out) hb); have n1_ := Aside0.mk (below_step (by repeat (first | (with_reducible first | exact HB.out | apply below_alloc | apply pw_below_drewN | apply below_drew1) | exact HB.out)) hb); clear HO146; clear HB; have HO146 := n0_; have HB := n1_; clear n0_ n1_; (try clear hb); (try clear hb2); (try clear hk); (try clear hi)) | (go_at_call 9; (with_reducible refine (lex_Lex.calls t147 t148 t149 t150 _ A9.out).mono ?_); rintro e w15 ⟨v151, rfl, ho0, hb⟩; have n0_ := Aside0.mk (Kd.R_elder' (by (with_reducible repeat (first | apply Kd.R_alloc | apply Kd.R_drewN | apply Kd.R_drew)); exact HO146.out) (Kd.R_base ho0) hb); have n1_ := Aside0.mk (Kd.R_lower (Kd.R_new' ho0 (Kd.R_lt (by (with_reducible repeat (first | apply Kd.R_alloc | apply Kd.R_drewN | apply Kd.R_drew)); exact HO146.out))) (below_size (by repeat (first | (with_reducible first | exact HB.out | apply below_alloc | apply pw_below_drewN | apply below_drew1) | exact HB.out)))); have n2_ := Aside0.mk (below_step (by repeat (first | (with_reducible first | exact HB.out | apply below_alloc | apply pw_below_drewN | apply below_drew1) | exact HB.out)) hb); clear HO146; clear HB; have HO146 := n0_; have HO152 := n1_; have HB := n2_; clear n0_ n1_ n2_; (try clear hb); (try clear hb2); (try clear hk); (try clear hi); (try clear ho0))))
        (try simp only [Act.put, List.setIfInBounds_toArray, List.set_cons_zero, List.set_cons_succ])
        go_cut [49] (fun v49 wc => ∃ (kq : Nat) (x49_9 : Bool), v49 = .bool x49_9 ∧ Aside0 (replevinlaw01_LexBack.j0 kq t142 t147 t148 x49_9 = some r) ∧ Aside0 (kq ≤ k) ∧ Aside0 (Kd.R k35 35 wc w.heap.size (fun k_ => some k_ ≠ (v151 : Value).ownBlock) (.slice Ao13 t142.length co13) t142) ∧ Aside0 (Kd.R k35 35 wc w.heap.size (fun k_ => some k_ ≠ ((.slice Ao13 t142.length co13) : Value).ownBlock) v151 t148) ∧ Aside0 (Below w.heap.size w wc))
        case first =>
          have H := HC10.out
          clear HC10
          by_cases c16 : t150 = 0
          · rw [if_pos c16] at H
            have c16b0 : (t150 == 0) = true := beq_iff_eq.mpr c16
            have c16b1 : (t150 != 0) = false := bne_eq_false_iff_eq.mpr c16
            clear c16
            (first | rw [c16b0] | (simp only [i64_w, i32_w]; rw [c16b0]) | skip)
            by_cases c17 : (t148.length : Int) = (t142.length : Int)
            · rw [if_pos c17] at H
              have c17b0 : ((t148.length : Int) == (t142.length : Int)) = true := beq_iff_eq.mpr c17
              have c17b1 : ((t148.length : Int) != (t142.length : Int)) = false := bne_eq_false_iff_eq.mpr c17
              have c17b2 : (t148.length == t142.length) = true := by first | simpa using c17 | (simp at c17 ⊢; omega)
              clear c17
              replace H := Option.bind_eq_some_iff.mp H
              obtain ⟨t153, A180, H⟩ := H
              replace H : (replevinlaw01_LexBack.j0 k t142 t147 t148 (t153.toList != t147.toList)) = some r := H
              have A18 := Aside0.mk A180
              clear A180
              have H' := Aside0.mk H
              clear H
              obtain ⟨Ao19, co19, eo19⟩ := Kd.R_slice HO152.out
              subst eo19
              go_wp2_with (first | (go_at_call 15; (with_reducible refine (lex_Join.calls _ _ t148 t153 _ ?side1 ?side2 A18.out).mono ?_); (case side1 => repeat (first | exact (Kd.R_reads' HO152.out).2.2 | (with_reducible refine Kd.C_alloc ?_ _) | (with_reducible refine Kd.C_drewN ?_ _) | (with_reducible refine Kd.C_drew ?_))); (case side2 => exact (Kd.R_reads' HO152.out).2.1); rintro e w20 ⟨rfl, hb⟩; have n0_ := Aside0.mk (Kd.R_below (by (with_reducible repeat (first | apply Kd.R_alloc | apply Kd.R_drewN | apply Kd.R_drew)); exact HO146.out) hb); have n1_ := Aside0.mk (Kd.R_below (by (with_reducible repeat (first | apply Kd.R_alloc | apply Kd.R_drewN | apply Kd.R_drew)); exact HO152.out) hb); have n2_ := Aside0.mk (below_step (by repeat (first | (with_reducible first | exact HB.out | apply below_alloc | apply pw_below_drewN | apply below_drew1) | exact HB.out)) hb); clear HO146; clear HO152; clear HB; have HO146 := n0_; have HO152 := n1_; have HB := n2_; clear n0_ n1_ n2_; (try clear hb); (try clear hb2); (try clear hk); (try clear hi)))
              repeat (go_quiet (first | (go_at_call 15; (with_reducible refine (lex_Join.calls _ _ t148 t153 _ ?side1 ?side2 A18.out).mono ?_); (case side1 => repeat (first | exact (Kd.R_reads' HO152.out).2.2 | (with_reducible refine Kd.C_alloc ?_ _) | (with_reducible refine Kd.C_drewN ?_ _) | (with_reducible refine Kd.C_drew ?_))); (case side2 => exact (Kd.R_reads' HO152.out).2.1); rintro e w20 ⟨rfl, hb⟩; have n0_ := Aside0.mk (Kd.R_below (by (with_reducible repeat (first | apply Kd.R_alloc | apply Kd.R_drewN | apply Kd.R_drew)); exact HO146.out) hb); have n1_ := Aside0.mk (Kd.R_below (by (with_reducible repeat (first | apply Kd.R_alloc | apply Kd.R_drewN | apply Kd.R_drew)); exact HO152.out) hb); have n2_ := Aside0.mk (below_step (by repeat (first | (with_reducible first | exact HB.out | apply below_alloc | apply pw_below_drewN | apply below_drew1) | exact HB.out)) hb); clear HO146; clear HO152; clear HB; have HO146 := n0_; have HO152 := n1_; have HB := n2_; clear n0_ n1_ n2_; (try clear hb); (try clear hb2); (try clear hk); (try clear hi))); try go_wp2_with (first | (go_at_call 15; (with_reducible refine (lex_Join.calls _ _ t148 t153 _ ?side1 ?side2 A18.out).mono ?_); (case side1 => repeat (first | exact (Kd.R_reads' HO152.out).2.2 | (with_reducible refine Kd.C_alloc ?_ _) | (with_reducible refine Kd.C_drewN ?_ _) | (with_reducible refine Kd.C_drew ?_))); (case side2 => exact (Kd.R_reads' HO152.out).2.1); rintro e w20 ⟨rfl, hb⟩; have n0_ := Aside0.mk (Kd.R_below (by (with_reducible repeat (first | apply Kd.R_alloc | apply Kd.R_drewN | apply Kd.R_drew)); exact HO146.out) hb); have n1_ := Aside0.mk (Kd.R_below (by (with_reducible repeat (first | apply Kd.R_alloc | apply Kd.R_drewN | apply Kd.R_drew)); exact HO152.out) hb); have n2_ := Aside0.mk (below_step (by repeat (first | (with_reducible first | exact HB.out | apply below_alloc | apply pw_below_drewN | apply below_drew1) | exact HB.out)) hb); clear HO146; clear HO152; clear HB; have HO146 := n0_; have HO152 := n1_; have HB := n2_; clear n0_ n1_ n2_; (try clear hb); (try clear hb2); (try clear hk); (try clear hi))))
              go_meet
              case rel => exact ⟨_, ((t153.toList != t147.toList)), (by first | rfl | (simp; done) | (simp [*]; done)), H', ⟨by first | omega | exact Nat.le_refl _⟩, ⟨by (with_reducible repeat (first | apply Kd.R_alloc | apply Kd.R_drewN | apply Kd.R_drew)); exact Kd.R_mono HO146.out (fun _ hk => hk.2)⟩, ⟨by (with_reducible repeat (first | apply Kd.R_alloc | apply Kd.R_drewN | apply Kd.R_drew)); exact Kd.R_mono HO152.out (fun _ hk => hk.2)⟩, ⟨by repeat (first | (with_reducible first | exact HB.out | apply below_alloc | apply pw_below_drewN | apply below_drew1) | exact HB.out)⟩⟩
            · rw [if_neg c17] at H
              have c17b0 : ((t148.length : Int) == (t142.length : Int)) = false := beq_eq_false_iff_ne.mpr c17
              have c17b1 : ((t148.length : Int) != (t142.length : Int)) = true := bne_iff_ne.mpr c17
              have c17b2 : (t148.length == t142.length) = false := by first | simpa using c17 | (simp at c17 ⊢; omega)
              have H' := Aside0.mk H
              clear H
              obtain ⟨Ao21, co21, eo21⟩ := Kd.R_slice HO152.out
              subst eo21
              go_wp2
              repeat (go_quiet (fail); try go_wp2)
              go_meet
              case rel => exact ⟨_, (true), (by first | rfl | (simp; done) | (simp [*]; done)), H', ⟨by first | omega | exact Nat.le_refl _⟩, ⟨by (with_reducible repeat (first | apply Kd.R_alloc | apply Kd.R_drewN | apply Kd.R_drew)); exact Kd.R_mono HO146.out (fun _ hk => hk.2)⟩, ⟨by (with_reducible repeat (first | apply Kd.R_alloc | apply Kd.R_drewN | apply Kd.R_drew)); exact Kd.R_mono HO152.out (fun _ hk => hk.2)⟩, ⟨by repeat (first | (with_reducible first | exact HB.out | apply below_alloc | apply pw_below_drewN | apply below_drew1) | exact HB.out)⟩⟩
          · rw [if_neg c16] at H
            have c16b0 : (t150 == 0) = false := beq_eq_false_iff_ne.mpr c16
            have c16b1 : (t150 != 0) = true := bne_iff_ne.mpr c16
            (first | rw [c16b0] | (simp only [i64_w, i32_w]; rw [c16b0]) | skip)
            have H' := Aside0.mk H
            clear H
            go_wp2
            repeat (go_quiet (fail); try go_wp2)
            go_meet
            case rel => exact ⟨_, (true), (by first | rfl | (simp; done) | (simp [*]; done)), H', ⟨by first | omega | exact Nat.le_refl _⟩, ⟨by (with_reducible repeat (first | apply Kd.R_alloc | apply Kd.R_drewN | apply Kd.R_drew)); exact Kd.R_mono HO146.out (fun _ hk => hk.2)⟩, ⟨by (with_reducible repeat (first | apply Kd.R_alloc | apply Kd.R_drewN | apply Kd.R_drew)); exact Kd.R_mono HO152.out (fun _ hk => hk.2)⟩, ⟨by repeat (first | (with_reducible first | exact HB.out | apply below_alloc | apply pw_below_drewN | apply below_drew1) | exact HB.out)⟩⟩
        case rest =>
          clear HC10
          try clear c1
          try clear p2
          try clear c3
          try clear c4
          try clear c4b0
          try clear c4b1
          try clear c7
          try clear c7b0
          try clear c7b1
          try clear c16
          try clear c16b0
          try clear c16b1
          try clear c17
          try clear c17b0
          try clear c17b1
          try clear c17b2
          obtain ⟨kq, x49_9, rfl, HA, HJ9, HO_3, HO_7, HB⟩ := hcut
          cases kq with
          | zero => exact absurd HA.out (by simp [replevinlaw01_LexBack.j0])
          | succ kj9 =>
            have H := HA.out
            clear HA
            simp only [replevinlaw01_LexBack.j0] at H
            by_cases c22 : x49_9 = true
            · subst c22
              have H1 : (some false) = some r := by rw [if_pos rfl] at H; exact H
              clear H
              have H := H1
              clear H1
              obtain rfl := Option.some.inj H
              go_wp2
              repeat (go_quiet (fail); try go_wp2)
              go_ret
              exact ⟨by first | rfl | (simp [errW_none, errW_some] <;> rfl) | (simp [*, errW_none, errW_some] <;> rfl), by repeat (first | (with_reducible first | exact HB.out | apply below_alloc | apply pw_below_drewN | apply below_drew1) | exact HB.out)⟩
            · replace c22 := Bool.eq_false_iff.mpr c22
              subst c22
              have H1 : (replevinlaw01_LexBack.l0 kj9 t142 t147 t148 (t148.length : Int) 0) = some r := by rw [if_neg (show ¬ (false = true) by decide)] at H; exact H
              clear H
              have H := H1
              clear H1
              have H' := Aside0.mk H
              clear H
              obtain ⟨Ao23, co23, eo23⟩ := Kd.R_slice HO_7.out
              subst eo23
              go_wp2
              repeat (go_quiet (fail); try go_wp2)
              go_loopg [52] kj9 (fun kq v52 w' => ∃ (x52_2 : Int), v52 = .int .i64 x52_2 ∧ Aside0 (replevinlaw01_LexBack.l0 kq t142 t147 t148 (t148.length : Int) x52_2 = some r) ∧ Aside0 (kq ≤ kj9) ∧ Aside0 (Kd.R k35 35 w' w.heap.size (fun k_ => some k_ ≠ ((.slice Ao23 t148.length co23) : Value).ownBlock) (.slice Ao13 t142.length co13) t142) ∧ Aside0 (Kd.R k35 35 w' w.heap.size (fun k_ => some k_ ≠ ((.slice Ao13 t142.length co13) : Value).ownBlock) (.slice Ao23 t148.length co23) t148) ∧ Aside0 (Below w.heap.size w w'))
              case atStart => exact ⟨(0), (by first | rfl | (simp; done) | (simp [*]; done)), H', ⟨Nat.le_refl _⟩, ⟨by (with_reducible repeat (first | apply Kd.R_alloc | apply Kd.R_drewN | apply Kd.R_drew)); exact HO_3.out⟩, ⟨by (with_reducible repeat (first | apply Kd.R_alloc | apply Kd.R_drewN | apply Kd.R_drew)); exact HO_7.out⟩, ⟨by repeat (first | (with_reducible first | exact HB.out | apply below_alloc | apply pw_below_drewN | apply below_drew1) | exact HB.out)⟩⟩
              case round =>
                clear H'
                try clear c1
                try clear c2
                try clear p2
                try clear c3
                try clear c4
                try clear c4b0
                try clear c4b1
                try clear c7
                try clear c7b0
                try clear c7b1
                try clear c16
                try clear c16b0
                try clear c16b1
                try clear c17
                try clear c17b0
                try clear c17b1
                try clear c17b2
                try clear c22
                try clear p2
                obtain ⟨x52_2, rfl, HA, HK2, HO_3, HO_7, HB⟩ := hrel
                cases gk with
                | zero => exact absurd HA.out (by simp [replevinlaw01_LexBack.l0])
                | succ k2 =>
                  have H := HA.out
                  clear HA
                  simp only [replevinlaw01_LexBack.l0] at H
                  by_cases c24 : x52_2 < (t148.length : Int)
                  · rw [if_pos c24] at H
                    have c24b0 : decide (x52_2 < (t148.length : Int)) = true := decide_eq_true c24
                    clear c24
                    by_cases c25 : 0 ≤ x52_2
                    · rw [if_pos c25] at H
                      have c25b0 : decide (0 ≤ x52_2) = true := decide_eq_true c25
                      clear c25
                      by_cases c26 : x52_2 < (t148.length : Int)
                      · rw [if_pos c26] at H
                        have c26b0 : decide (x52_2 < (t148.length : Int)) = true := decide_eq_true c26
                        clear c26
                        by_cases c27 : x52_2 < (t142.length : Int)
                        · rw [if_pos c27] at H
                          have c27b0 : decide (x52_2 < (t142.length : Int)) = true := decide_eq_true c27
                          clear c27
                          by_cases c28 : ((rd_T35 t148 x52_2).f0) = ((rd_T35 t142 x52_2).f0)
                          · rw [if_pos c28] at H
                            have c28b0 : (((rd_T35 t148 x52_2).f0) == ((rd_T35 t142 x52_2).f0)) = true := beq_iff_eq.mpr c28
                            have c28b1 : (((rd_T35 t148 x52_2).f0) != ((rd_T35 t142 x52_2).f0)) = false := bne_eq_false_iff_eq.mpr c28
                            clear c28
                            by_cases c29 : ((rd_T35 t148 x52_2).f1).toList = ((rd_T35 t142 x52_2).f1).toList
                            · rw [if_pos c29] at H
                              have c29b0 : (((rd_T35 t148 x52_2).f1).toList == ((rd_T35 t142 x52_2).f1).toList) = true := beq_iff_eq.mpr c29
                              have c29b1 : (((rd_T35 t148 x52_2).f1).toList != ((rd_T35 t142 x52_2).f1).toList) = false := bne_eq_false_iff_eq.mpr c29
                              clear c29
                              by_cases c30 : ((rd_T35 t148 x52_2).f2) = ((rd_T35 t142 x52_2).f2)
                              · rw [if_pos c30] at H
                                have c30b0 : (((rd_T35 t148 x52_2).f2) == ((rd_T35 t142 x52_2).f2)) = true := beq_iff_eq.mpr c30
                                have c30b1 : (((rd_T35 t148 x52_2).f2) != ((rd_T35 t142 x52_2).f2)) = false := bne_eq_false_iff_eq.mpr c30
                                clear c30
                                by_cases c31 : 0 ≤ ((rd_T35 t148 x52_2).f3)
                                · rw [if_pos c31] at H
                                  have c31b0 := eq_true c31
                                  have c31b1 : decide (0 ≤ ((rd_T35 t148 x52_2).f3)) = true := decide_eq_true c31
                                  clear c31
                                  by_cases c32 : ((rd_T35 t148 x52_2).f3) ≤ (wrap64 (((rd_T35 t148 x52_2).f3) + (((rd_T35 t148 x52_2).f1).size : Int)))
                                  · rw [if_pos c32] at H
                                    have c32b0 := eq_true c32
                                    have c32b1 : decide (((rd_T35 t148 x52_2).f3) ≤ (wrap64 (((rd_T35 t148 x52_2).f3) + (((rd_T35 t148 x52_2).f1).size : Int)))) = true := decide_eq_true c32
                                    by_cases c33 : (wrap64 (((rd_T35 t148 x52_2).f3) + (((rd_T35 t148 x52_2).f1).size : Int))) ≤ (t147.size : Int)
                                    · rw [if_pos c33] at H
                                      have c33b0 := eq_true c33
                                      have c33b1 : decide ((wrap64 (((rd_T35 t148 x52_2).f3) + (((rd_T35 t148 x52_2).f1).size : Int))) ≤ (t147.size : Int)) = true := decide_eq_true c33
                                      by_cases c34 : (t147.extract (((rd_T35 t148 x52_2).f3) : Int).toNat ((wrap64 (((rd_T35 t148 x52_2).f3) + (((rd_T35 t148 x52_2).f1).size : Int))) : Int).toNat).toList = ((rd_T35 t148 x52_2).f1).toList
                                      · rw [if_pos c34] at H
                                        have c34b0 : ((t147.extract (((rd_T35 t148 x52_2).f3) : Int).toNat ((wrap64 (((rd_T35 t148 x52_2).f3) + (((rd_T35 t148 x52_2).f1).size : Int))) : Int).toNat).toList == ((rd_T35 t148 x52_2).f1).toList) = true := beq_iff_eq.mpr c34
                                        have c34b1 : ((t147.extract (((rd_T35 t148 x52_2).f3) : Int).toNat ((wrap64 (((rd_T35 t148 x52_2).f3) + (((rd_T35 t148 x52_2).f1).size : Int))) : Int).toNat).toList != ((rd_T35 t148 x52_2).f1).toList) = false := bne_eq_false_iff_eq.mpr c34
                                        clear c34
                                        have H' := Aside0.mk H
                                        clear H
                                        have p154 : 0 ≤ (x52_2 : Int) := of_decide_eq_true (by first | (with_reducible assumption) | assumption)
                                        have q154 : x52_2 < (t148.length : Int) := of_decide_eq_true (by first | (with_reducible assumption) | assumption)
                                        obtain ⟨ad154, e154, hx154_0, hx154_1, hx154_2, hx154_3⟩ := at_T35 (Kd.R_reads' HO_7.out).2.2 x52_2 p154 q154
                                        cases e154
                                        replace p154 := eq_true p154
                                        replace q154 := eq_true q154
                                        have p155 : 0 ≤ (x52_2 : Int) := of_decide_eq_true (by first | (with_reducible assumption) | assumption)
                                        have q155 : x52_2 < (t142.length : Int) := of_decide_eq_true (by first | (with_reducible assumption) | assumption)
                                        obtain ⟨ad155, e155, hx155_0, hx155_1, hx155_2, hx155_3⟩ := at_T35 (Kd.R_reads' HO_3.out).2.2 x52_2 p155 q155
                                        cases e155
                                        replace p155 := eq_true p155
                                        replace q155 := eq_true q155
                                        have p156 : 0 ≤ (x52_2 : Int) := of_decide_eq_true (by first | (with_reducible assumption) | assumption)
                                        have q156 : x52_2 < (t148.length : Int) := of_decide_eq_true (by first | (with_reducible assumption) | assumption)
                                        obtain ⟨ad156, e156, hx156_0, hx156_1, hx156_2, hx156_3⟩ := at_T35 (Kd.R_reads' HO_7.out).2.2 x52_2 p156 q156
                                        obtain rfl : ad154 = ad156 := (by injection e156)
                                        replace p156 := eq_true p156
                                        replace q156 := eq_true q156
                                        have p157 : 0 ≤ (x52_2 : Int) := of_decide_eq_true (by first | (with_reducible assumption) | assumption)
                                        have q157 : x52_2 < (t142.length : Int) := of_decide_eq_true (by first | (with_reducible assumption) | assumption)
                                        obtain ⟨ad157, e157, hx157_0, hx157_1, hx157_2, hx157_3⟩ := at_T35 (Kd.R_reads' HO_3.out).2.2 x52_2 p157 q157
                                        obtain rfl : ad155 = ad157 := (by injection e157)
                                        replace p157 := eq_true p157
                                        replace q157 := eq_true q157
                                        have p158 : 0 ≤ (x52_2 : Int) := of_decide_eq_true (by first | (with_reducible assumption) | assumption)
                                        have q158 : x52_2 < (t148.length : Int) := of_decide_eq_true (by first | (with_reducible assumption) | assumption)
                                        obtain ⟨ad158, e158, hx158_0, hx158_1, hx158_2, hx158_3⟩ := at_T35 (Kd.R_reads' HO_7.out).2.2 x52_2 p158 q158
                                        obtain rfl : ad154 = ad158 := (by injection e158)
                                        replace p158 := eq_true p158
                                        replace q158 := eq_true q158
                                        have p159 : 0 ≤ (x52_2 : Int) := of_decide_eq_true (by first | (with_reducible assumption) | assumption)
                                        have q159 : x52_2 < (t142.length : Int) := of_decide_eq_true (by first | (with_reducible assumption) | assumption)
                                        obtain ⟨ad159, e159, hx159_0, hx159_1, hx159_2, hx159_3⟩ := at_T35 (Kd.R_reads' HO_3.out).2.2 x52_2 p159 q159
                                        obtain rfl : ad155 = ad159 := (by injection e159)
                                        replace p159 := eq_true p159
                                        replace q159 := eq_true q159
                                        have p160 : 0 ≤ (x52_2 : Int) := of_decide_eq_true (by first | (with_reducible assumption) | assumption)
                                        have q160 : x52_2 < (t148.length : Int) := of_decide_eq_true (by first | (with_reducible assumption) | assumption)
                                        obtain ⟨ad160, e160, hx160_0, hx160_1, hx160_2, hx160_3⟩ := at_T35 (Kd.R_reads' HO_7.out).2.2 x52_2 p160 q160
                                        obtain rfl : ad154 = ad160 := (by injection e160)
                                        replace p160 := eq_true p160
                                        replace q160 := eq_true q160
                                        have p161 : 0 ≤ (x52_2 : Int) := of_decide_eq_true (by first | (with_reducible assumption) | assumption)
                                        have q161 : x52_2 < (t148.length : Int) := of_decide_eq_true (by first | (with_reducible assumption) | assumption)
                                        obtain ⟨ad161, e161, hx161_0, hx161_1, hx161_2, hx161_3⟩ := at_T35 (Kd.R_reads' HO_7.out).2.2 x52_2 p161 q161
                                        obtain rfl : ad154 = ad161 := (by injection e161)
                                        replace p161 := eq_true p161
                                        replace q161 := eq_true q161
                                        have p162 : 0 ≤ (x52_2 : Int) := of_decide_eq_true (by first | (with_reducible assumption) | assumption)
                                        have q162 : x52_2 < (t148.length : Int) := of_decide_eq_true (by first | (with_reducible assumption) | assumption)
                                        obtain ⟨ad162, e162, hx162_0, hx162_1, hx162_2, hx162_3⟩ := at_T35 (Kd.R_reads' HO_7.out).2.2 x52_2 p162 q162
                                        obtain rfl : ad154 = ad162 := (by injection e162)
                                        replace p162 := eq_true p162
                                        replace q162 := eq_true q162
                                        have p163 : 0 ≤ (x52_2 : Int) := of_decide_eq_true (by first | (with_reducible assumption) | assumption)
                                        have q163 : x52_2 < (t148.length : Int) := of_decide_eq_true (by first | (with_reducible assumption) | assumption)
                                        obtain ⟨ad163, e163, hx163_0, hx163_1, hx163_2, hx163_3⟩ := at_T35 (Kd.R_reads' HO_7.out).2.2 x52_2 p163 q163
                                        obtain rfl : ad154 = ad163 := (by injection e163)
                                        replace p163 := eq_true p163
                                        replace q163 := eq_true q163
                                        go_wp2
                                        repeat (go_quiet (fail); try go_wp2)
                                        go_roundg k2
                                        case measure => have := HJ9.out; have := HK2.out; omega
                                        case rel => exact ⟨(wrap64 (x52_2 + 1)), (by first | rfl | (simp; done) | (simp [*]; done)), H', ⟨by have := HJ9.out; have := HK2.out; omega⟩, ⟨by (with_reducible repeat (first | apply Kd.R_alloc | apply Kd.R_drewN | apply Kd.R_drew)); exact HO_3.out⟩, ⟨by (with_reducible repeat (first | apply Kd.R_alloc | apply Kd.R_drewN | apply Kd.R_drew)); exact HO_7.out⟩, ⟨by repeat (first | (with_reducible first | exact HB.out | apply below_alloc | apply pw_below_drewN | apply below_drew1) | exact HB.out)⟩⟩
                                      · rw [if_neg c34] at H
                                        have c34b0 : ((t147.extract (((rd_T35 t148 x52_2).f3) : Int).toNat ((wrap64 (((rd_T35 t148 x52_2).f3) + (((rd_T35 t148 x52_2).f1).size : Int))) : Int).toNat).toList == ((rd_T35 t148 x52_2).f1).toList) = false := beq_eq_false_iff_ne.mpr c34
                                        have c34b1 : ((t147.extract (((rd_T35 t148 x52_2).f3) : Int).toNat ((wrap64 (((rd_T35 t148 x52_2).f3) + (((rd_T35 t148 x52_2).f1).size : Int))) : Int).toNat).toList != ((rd_T35 t148 x52_2).f1).toList) = true := bne_iff_ne.mpr c34
                                        obtain rfl := Option.some.inj H
                                        have p154 : 0 ≤ (x52_2 : Int) := of_decide_eq_true (by first | (with_reducible assumption) | assumption)
                                        have q154 : x52_2 < (t148.length : Int) := of_decide_eq_true (by first | (with_reducible assumption) | assumption)
                                        obtain ⟨ad154, e154, hx154_0, hx154_1, hx154_2, hx154_3⟩ := at_T35 (Kd.R_reads' HO_7.out).2.2 x52_2 p154 q154
                                        cases e154
                                        replace p154 := eq_true p154
                                        replace q154 := eq_true q154
                                        have p155 : 0 ≤ (x52_2 : Int) := of_decide_eq_true (by first | (with_reducible assumption) | assumption)
                                        have q155 : x52_2 < (t142.length : Int) := of_decide_eq_true (by first | (with_reducible assumption) | assumption)
                                        obtain ⟨ad155, e155, hx155_0, hx155_1, hx155_2, hx155_3⟩ := at_T35 (Kd.R_reads' HO_3.out).2.2 x52_2 p155 q155
                                        cases e155
                                        replace p155 := eq_true p155
                                        replace q155 := eq_true q155
                                        have p156 : 0 ≤ (x52_2 : Int) := of_decide_eq_true (by first | (with_reducible assumption) | assumption)
                                        have q156 : x52_2 < (t148.length : Int) := of_decide_eq_true (by first | (with_reducible assumption) | assumption)
                                        obtain ⟨ad156, e156, hx156_0, hx156_1, hx156_2, hx156_3⟩ := at_T35 (Kd.R_reads' HO_7.out).2.2 x52_2 p156 q156
                                        obtain rfl : ad154 = ad156 := (by injection e156)
                                        replace p156 := eq_true p156
                                        replace q156 := eq_true q156
                                        have p157 : 0 ≤ (x52_2 : Int) := of_decide_eq_true (by first | (with_reducible assumption) | assumption)
                                        have q157 : x52_2 < (t142.length : Int) := of_decide_eq_true (by first | (with_reducible assumption) | assumption)
                                        obtain ⟨ad157, e157, hx157_0, hx157_1, hx157_2, hx157_3⟩ := at_T35 (Kd.R_reads' HO_3.out).2.2 x52_2 p157 q157
                                        obtain rfl : ad155 = ad157 := (by injection e157)
                                        replace p157 := eq_true p157
                                        replace q157 := eq_true q157
                                        have p158 : 0 ≤ (x52_2 : Int) := of_decide_eq_true (by first | (with_reducible assumption) | assumption)
                                        have q158 : x52_2 < (t148.length : Int) := of_decide_eq_true (by first | (with_reducible assumption) | assumption)
                                        obtain ⟨ad158, e158, hx158_0, hx158_1, hx158_2, hx158_3⟩ := at_T35 (Kd.R_reads' HO_7.out).2.2 x52_2 p158 q158
                                        obtain rfl : ad154 = ad158 := (by injection e158)
                                        replace p158 := eq_true p158
                                        replace q158 := eq_true q158
                                        have p159 : 0 ≤ (x52_2 : Int) := of_decide_eq_true (by first | (with_reducible assumption) | assumption)
                                        have q159 : x52_2 < (t142.length : Int) := of_decide_eq_true (by first | (with_reducible assumption) | assumption)
                                        obtain ⟨ad159, e159, hx159_0, hx159_1, hx159_2, hx159_3⟩ := at_T35 (Kd.R_reads' HO_3.out).2.2 x52_2 p159 q159
                                        obtain rfl : ad155 = ad159 := (by injection e159)
                                        replace p159 := eq_true p159
                                        replace q159 := eq_true q159
                                        have p160 : 0 ≤ (x52_2 : Int) := of_decide_eq_true (by first | (with_reducible assumption) | assumption)
                                        have q160 : x52_2 < (t148.length : Int) := of_decide_eq_true (by first | (with_reducible assumption) | assumption)
                                        obtain ⟨ad160, e160, hx160_0, hx160_1, hx160_2, hx160_3⟩ := at_T35 (Kd.R_reads' HO_7.out).2.2 x52_2 p160 q160
                                        obtain rfl : ad154 = ad160 := (by injection e160)
                                        replace p160 := eq_true p160
                                        replace q160 := eq_true q160
                                        have p161 : 0 ≤ (x52_2 : Int) := of_decide_eq_true (by first | (with_reducible assumption) | assumption)
                                        have q161 : x52_2 < (t148.length : Int) := of_decide_eq_true (by first | (with_reducible assumption) | assumption)
                                        obtain ⟨ad161, e161, hx161_0, hx161_1, hx161_2, hx161_3⟩ := at_T35 (Kd.R_reads' HO_7.out).2.2 x52_2 p161 q161
                                        obtain rfl : ad154 = ad161 := (by injection e161)
                                        replace p161 := eq_true p161
                                        replace q161 := eq_true q161
                                        have p162 : 0 ≤ (x52_2 : Int) := of_decide_eq_true (by first | (with_reducible assumption) | assumption)
                                        have q162 : x52_2 < (t148.length : Int) := of_decide_eq_true (by first | (with_reducible assumption) | assumption)
                                        obtain ⟨ad162, e162, hx162_0, hx162_1, hx162_2, hx162_3⟩ := at_T35 (Kd.R_reads' HO_7.out).2.2 x52_2 p162 q162
                                        obtain rfl : ad154 = ad162 := (by injection e162)
                                        replace p162 := eq_true p162
                                        replace q162 := eq_true q162
                                        have p163 : 0 ≤ (x52_2 : Int) := of_decide_eq_true (by first | (with_reducible assumption) | assumption)
                                        have q163 : x52_2 < (t148.length : Int) := of_decide_eq_true (by first | (with_reducible assumption) | assumption)
                                        obtain ⟨ad163, e163, hx163_0, hx163_1, hx163_2, hx163_3⟩ := at_T35 (Kd.R_reads' HO_7.out).2.2 x52_2 p163 q163
                                        obtain rfl : ad154 = ad163 := (by injection e163)
                                        replace p163 := eq_true p163
                                        replace q163 := eq_true q163
                                        go_wp2
                                        repeat (go_quiet (fail); try go_wp2)
                                        go_ret
                                        exact ⟨by first | rfl | (simp [errW_none, errW_some] <;> rfl) | (simp [*, errW_none, errW_some] <;> rfl), by repeat (first | (with_reducible first | exact HB.out | apply below_alloc | apply pw_below_drewN | apply below_drew1) | exact HB.out)⟩
                                    · rw [if_neg c33] at H
                                      exact absurd H (by simp)
                                  · rw [if_neg c32] at H
                                    exact absurd H (by simp)
                                · rw [if_neg c31] at H
                                  exact absurd H (by simp)
                              · rw [if_neg c30] at H
                                have c30b0 : (((rd_T35 t148 x52_2).f2) == ((rd_T35 t142 x52_2).f2)) = false := beq_eq_false_iff_ne.mpr c30
                                have c30b1 : (((rd_T35 t148 x52_2).f2) != ((rd_T35 t142 x52_2).f2)) = true := bne_iff_ne.mpr c30
                                obtain rfl := Option.some.inj H
                                have p154 : 0 ≤ (x52_2 : Int) := of_decide_eq_true (by first | (with_reducible assumption) | assumption)
                                have q154 : x52_2 < (t148.length : Int) := of_decide_eq_true (by first | (with_reducible assumption) | assumption)
                                obtain ⟨ad154, e154, hx154_0, hx154_1, hx154_2, hx154_3⟩ := at_T35 (Kd.R_reads' HO_7.out).2.2 x52_2 p154 q154
                                cases e154
                                replace p154 := eq_true p154
                                replace q154 := eq_true q154
                                have p155 : 0 ≤ (x52_2 : Int) := of_decide_eq_true (by first | (with_reducible assumption) | assumption)
                                have q155 : x52_2 < (t142.length : Int) := of_decide_eq_true (by first | (with_reducible assumption) | assumption)
                                obtain ⟨ad155, e155, hx155_0, hx155_1, hx155_2, hx155_3⟩ := at_T35 (Kd.R_reads' HO_3.out).2.2 x52_2 p155 q155
                                cases e155
                                replace p155 := eq_true p155
                                replace q155 := eq_true q155
                                have p156 : 0 ≤ (x52_2 : Int) := of_decide_eq_true (by first | (with_reducible assumption) | assumption)
                                have q156 : x52_2 < (t148.length : Int) := of_decide_eq_true (by first | (with_reducible assumption) | assumption)
                                obtain ⟨ad156, e156, hx156_0, hx156_1, hx156_2, hx156_3⟩ := at_T35 (Kd.R_reads' HO_7.out).2.2 x52_2 p156 q156
                                obtain rfl : ad154 = ad156 := (by injection e156)
                                replace p156 := eq_true p156
                                replace q156 := eq_true q156
                                have p157 : 0 ≤ (x52_2 : Int) := of_decide_eq_true (by first | (with_reducible assumption) | assumption)
                                have q157 : x52_2 < (t142.length : Int) := of_decide_eq_true (by first | (with_reducible assumption) | assumption)
                                obtain ⟨ad157, e157, hx157_0, hx157_1, hx157_2, hx157_3⟩ := at_T35 (Kd.R_reads' HO_3.out).2.2 x52_2 p157 q157
                                obtain rfl : ad155 = ad157 := (by injection e157)
                                replace p157 := eq_true p157
                                replace q157 := eq_true q157
                                have p158 : 0 ≤ (x52_2 : Int) := of_decide_eq_true (by first | (with_reducible assumption) | assumption)
                                have q158 : x52_2 < (t148.length : Int) := of_decide_eq_true (by first | (with_reducible assumption) | assumption)
                                obtain ⟨ad158, e158, hx158_0, hx158_1, hx158_2, hx158_3⟩ := at_T35 (Kd.R_reads' HO_7.out).2.2 x52_2 p158 q158
                                obtain rfl : ad154 = ad158 := (by injection e158)
                                replace p158 := eq_true p158
                                replace q158 := eq_true q158
                                have p159 : 0 ≤ (x52_2 : Int) := of_decide_eq_true (by first | (with_reducible assumption) | assumption)
                                have q159 : x52_2 < (t142.length : Int) := of_decide_eq_true (by first | (with_reducible assumption) | assumption)
                                obtain ⟨ad159, e159, hx159_0, hx159_1, hx159_2, hx159_3⟩ := at_T35 (Kd.R_reads' HO_3.out).2.2 x52_2 p159 q159
                                obtain rfl : ad155 = ad159 := (by injection e159)
                                replace p159 := eq_true p159
                                replace q159 := eq_true q159
                                go_wp2
                                repeat (go_quiet (fail); try go_wp2)
                                go_ret
                                exact ⟨by first | rfl | (simp [errW_none, errW_some] <;> rfl) | (simp [*, errW_none, errW_some] <;> rfl), by repeat (first | (with_reducible first | exact HB.out | apply below_alloc | apply pw_below_drewN | apply below_drew1) | exact HB.out)⟩
                            · rw [if_neg c29] at H
                              have c29b0 : (((rd_T35 t148 x52_2).f1).toList == ((rd_T35 t142 x52_2).f1).toList) = false := beq_eq_false_iff_ne.mpr c29
                              have c29b1 : (((rd_T35 t148 x52_2).f1).toList != ((rd_T35 t142 x52_2).f1).toList) = true := bne_iff_ne.mpr c29
                              obtain rfl := Option.some.inj H
                              have p154 : 0 ≤ (x52_2 : Int) := of_decide_eq_true (by first | (with_reducible assumption) | assumption)
                              have q154 : x52_2 < (t148.length : Int) := of_decide_eq_true (by first | (with_reducible assumption) | assumption)
                              obtain ⟨ad154, e154, hx154_0, hx154_1, hx154_2, hx154_3⟩ := at_T35 (Kd.R_reads' HO_7.out).2.2 x52_2 p154 q154
                              cases e154
                              replace p154 := eq_true p154
                              replace q154 := eq_true q154
                              have p155 : 0 ≤ (x52_2 : Int) := of_decide_eq_true (by first | (with_reducible assumption) | assumption)
                              have q155 : x52_2 < (t142.length : Int) := of_decide_eq_true (by first | (with_reducible assumption) | assumption)
                              obtain ⟨ad155, e155, hx155_0, hx155_1, hx155_2, hx155_3⟩ := at_T35 (Kd.R_reads' HO_3.out).2.2 x52_2 p155 q155
                              cases e155
                              replace p155 := eq_true p155
                              replace q155 := eq_true q155
                              have p156 : 0 ≤ (x52_2 : Int) := of_decide_eq_true (by first | (with_reducible assumption) | assumption)
                              have q156 : x52_2 < (t148.length : Int) := of_decide_eq_true (by first | (with_reducible assumption) | assumption)
                              obtain ⟨ad156, e156, hx156_0, hx156_1, hx156_2, hx156_3⟩ := at_T35 (Kd.R_reads' HO_7.out).2.2 x52_2 p156 q156
                              obtain rfl : ad154 = ad156 := (by injection e156)
                              replace p156 := eq_true p156
                              replace q156 := eq_true q156
                              have p157 : 0 ≤ (x52_2 : Int) := of_decide_eq_true (by first | (with_reducible assumption) | assumption)
                              have q157 : x52_2 < (t142.length : Int) := of_decide_eq_true (by first | (with_reducible assumption) | assumption)
                              obtain ⟨ad157, e157, hx157_0, hx157_1, hx157_2, hx157_3⟩ := at_T35 (Kd.R_reads' HO_3.out).2.2 x52_2 p157 q157
                              obtain rfl : ad155 = ad157 := (by injection e157)
                              replace p157 := eq_true p157
                              replace q157 := eq_true q157
                              go_wp2
                              repeat (go_quiet (fail); try go_wp2)
                              go_ret
                              exact ⟨by first | rfl | (simp [errW_none, errW_some] <;> rfl) | (simp [*, errW_none, errW_some] <;> rfl), by repeat (first | (with_reducible first | exact HB.out | apply below_alloc | apply pw_below_drewN | apply below_drew1) | exact HB.out)⟩
                          · rw [if_neg c28] at H
                            have c28b0 : (((rd_T35 t148 x52_2).f0) == ((rd_T35 t142 x52_2).f0)) = false := beq_eq_false_iff_ne.mpr c28
                            have c28b1 : (((rd_T35 t148 x52_2).f0) != ((rd_T35 t142 x52_2).f0)) = true := bne_iff_ne.mpr c28
                            obtain rfl := Option.some.inj H
                            have p154 : 0 ≤ (x52_2 : Int) := of_decide_eq_true (by first | (with_reducible assumption) | assumption)
                            have q154 : x52_2 < (t148.length : Int) := of_decide_eq_true (by first | (with_reducible assumption) | assumption)
                            obtain ⟨ad154, e154, hx154_0, hx154_1, hx154_2, hx154_3⟩ := at_T35 (Kd.R_reads' HO_7.out).2.2 x52_2 p154 q154
                            cases e154
                            replace p154 := eq_true p154
                            replace q154 := eq_true q154
                            have p155 : 0 ≤ (x52_2 : Int) := of_decide_eq_true (by first | (with_reducible assumption) | assumption)
                            have q155 : x52_2 < (t142.length : Int) := of_decide_eq_true (by first | (with_reducible assumption) | assumption)
                            obtain ⟨ad155, e155, hx155_0, hx155_1, hx155_2, hx155_3⟩ := at_T35 (Kd.R_reads' HO_3.out).2.2 x52_2 p155 q155
                            cases e155
                            replace p155 := eq_true p155
                            replace q155 := eq_true q155
                            go_wp2
                            repeat (go_quiet (fail); try go_wp2)
                            go_ret
                            exact ⟨by first | rfl | (simp [errW_none, errW_some] <;> rfl) | (simp [*, errW_none, errW_some] <;> rfl), by repeat (first | (with_reducible first | exact HB.out | apply below_alloc | apply pw_below_drewN | apply below_drew1) | exact HB.out)⟩
                        · rw [if_neg c27] at H
                          exact absurd H (by simp)
                      · rw [if_neg c26] at H
                        exact absurd H (by simp)
                    · rw [if_neg c25] at H
                      exact absurd H (by simp)
                  · rw [if_neg c24] at H
                    have c24b0 : decide (x52_2 < (t148.length : Int)) = false := decide_eq_false c24
                    clear c24
                    obtain rfl := Option.some.inj H
                    go_wp2
                    repeat (go_quiet (fail); try go_wp2)
                    go_ret
                    exact ⟨by first | rfl | (simp [errW_none, errW_some] <;> rfl) | (simp [*, errW_none, errW_some] <;> rfl), by repeat (first | (with_reducible first | exact HB.out | apply below_alloc | apply pw_below_drewN | apply below_drew1) | exact HB.out)⟩
      · rw [if_neg c7] at H
        have c7b0 : (t144 == 0) = false := beq_eq_false_iff_ne.mpr c7
        have c7b1 : (t144 != 0) = true := bne_iff_ne.mpr c7
        obtain rfl := Option.some.inj H
        go_enter Try.func4, Try.ntmps4
        go_wp2_with (first | (go_at_call 8; (with_reducible refine (replevinlaw01_awake.calls  true _ A2.out).mono ?_); rintro e w35 ⟨rfl, hb⟩; have n0_ := Aside0.mk (below_step (by repeat (first | (with_reducible first | exact HB.out | apply below_alloc | apply pw_below_drewN | apply below_drew1) | exact HB.out)) hb); clear HB; have HB := n0_; clear n0_; (try clear hb); (try clear hb2); (try clear hk); (try clear hi)) | (go_at_call 9; (with_reducible refine (lex_Lex.calls a0 t142 t143 t144 _ A6.out).mono ?_); rintro e w36 ⟨v145, rfl, ho0, hb⟩; have n0_ := Aside0.mk (Kd.R_lower ho0 (below_size (by repeat (first | (with_reducible first | exact HB.out | apply below_alloc | apply pw_below_drewN | apply below_drew1) | exact HB.out)))); have n1_ := Aside0.mk (below_step (by repeat (first | (with_reducible first | exact HB.out | apply below_alloc | apply pw_below_drewN | apply below_drew1) | exact HB.out)) hb); clear HB; have HO146 := n0_; have HB := n1_; clear n0_ n1_; (try clear hb); (try clear hb2); (try clear hk); (try clear hi); (try clear ho0); obtain ⟨Ao37, co37, eo37⟩ := Kd.R_slice HO146.out; subst eo37))
        repeat (go_quiet (first | (go_at_call 8; (with_reducible refine (replevinlaw01_awake.calls  true _ A2.out).mono ?_); rintro e w35 ⟨rfl, hb⟩; have n0_ := Aside0.mk (below_step (by repeat (first | (with_reducible first | exact HB.out | apply below_alloc | apply pw_below_drewN | apply below_drew1) | exact HB.out)) hb); clear HB; have HB := n0_; clear n0_; (try clear hb); (try clear hb2); (try clear hk); (try clear hi)) | (go_at_call 9; (with_reducible refine (lex_Lex.calls a0 t142 t143 t144 _ A6.out).mono ?_); rintro e w36 ⟨v145, rfl, ho0, hb⟩; have n0_ := Aside0.mk (Kd.R_lower ho0 (below_size (by repeat (first | (with_reducible first | exact HB.out | apply below_alloc | apply pw_below_drewN | apply below_drew1) | exact HB.out)))); have n1_ := Aside0.mk (below_step (by repeat (first | (with_reducible first | exact HB.out | apply below_alloc | apply pw_below_drewN | apply below_drew1) | exact HB.out)) hb); clear HB; have HO146 := n0_; have HB := n1_; clear n0_ n1_; (try clear hb); (try clear hb2); (try clear hk); (try clear hi); (try clear ho0); obtain ⟨Ao37, co37, eo37⟩ := Kd.R_slice HO146.out; subst eo37)); try go_wp2_with (first | (go_at_call 8; (with_reducible refine (replevinlaw01_awake.calls  true _ A2.out).mono ?_); rintro e w35 ⟨rfl, hb⟩; have n0_ := Aside0.mk (below_step (by repeat (first | (with_reducible first | exact HB.out | apply below_alloc | apply pw_below_drewN | apply below_drew1) | exact HB.out)) hb); clear HB; have HB := n0_; clear n0_; (try clear hb); (try clear hb2); (try clear hk); (try clear hi)) | (go_at_call 9; (with_reducible refine (lex_Lex.calls a0 t142 t143 t144 _ A6.out).mono ?_); rintro e w36 ⟨v145, rfl, ho0, hb⟩; have n0_ := Aside0.mk (Kd.R_lower ho0 (below_size (by repeat (first | (with_reducible first | exact HB.out | apply below_alloc | apply pw_below_drewN | apply below_drew1) | exact HB.out)))); have n1_ := Aside0.mk (below_step (by repeat (first | (with_reducible first | exact HB.out | apply below_alloc | apply pw_below_drewN | apply below_drew1) | exact HB.out)) hb); clear HB; have HO146 := n0_; have HB := n1_; clear n0_ n1_; (try clear hb); (try clear hb2); (try clear hk); (try clear hi); (try clear ho0); obtain ⟨Ao37, co37, eo37⟩ := Kd.R_slice HO146.out; subst eo37)))
        go_ret
        exact ⟨by first | rfl | (simp [errW_none, errW_some] <;> rfl) | (simp [*, errW_none, errW_some] <;> rfl), by repeat (first | (with_reducible first | exact HB.out | apply below_alloc | apply pw_below_drewN | apply below_drew1) | exact HB.out)⟩
  · replace c3 := Bool.eq_false_iff.mpr c3
    subst c3
    have H1 : (some false) = some r := by rw [if_neg (show ¬ (false = true) by decide)] at H; exact H
    clear H
    have H := H1
    clear H1
    obtain rfl := Option.some.inj H
    go_enter Try.func4, Try.ntmps4
    go_wp2_with (first | (go_at_call 8; (with_reducible refine (replevinlaw01_awake.calls  false _ A2.out).mono ?_); rintro e w38 ⟨rfl, hb⟩; have n0_ := Aside0.mk (below_step (by repeat (first | (with_reducible first | exact HB.out | apply below_alloc | apply pw_below_drewN | apply below_drew1) | exact HB.out)) hb); clear HB; have HB := n0_; clear n0_; (try clear hb); (try clear hb2); (try clear hk); (try clear hi)))
    repeat (go_quiet (first | (go_at_call 8; (with_reducible refine (replevinlaw01_awake.calls  false _ A2.out).mono ?_); rintro e w38 ⟨rfl, hb⟩; have n0_ := Aside0.mk (below_step (by repeat (first | (with_reducible first | exact HB.out | apply below_alloc | apply pw_below_drewN | apply below_drew1) | exact HB.out)) hb); clear HB; have HB := n0_; clear n0_; (try clear hb); (try clear hb2); (try clear hk); (try clear hi))); try go_wp2_with (first | (go_at_call 8; (with_reducible refine (replevinlaw01_awake.calls  false _ A2.out).mono ?_); rintro e w38 ⟨rfl, hb⟩; have n0_ := Aside0.mk (below_step (by repeat (first | (with_reducible first | exact HB.out | apply below_alloc | apply pw_below_drewN | apply below_drew1) | exact HB.out)) hb); clear HB; have HB := n0_; clear n0_; (try clear hb); (try clear hb2); (try clear hk); (try clear hi))))
    go_ret
    exact ⟨by first | rfl | (simp [errW_none, errW_some] <;> rfl) | (simp [*, errW_none, errW_some] <;> rfl), by repeat (first | (with_reducible first | exact HB.out | apply below_alloc | apply pw_below_drewN | apply below_drew1) | exact HB.out)⟩

/-- THE ONE PURE STATEMENT of replevinlaw01_LexBack: yours. -/
def replevinlaw01_LexBack.Pure : Prop := ∀ (a0 : ByteArray), a0.size ≤ 140737488351232 → ∃ k, replevinlaw01_LexBack.f k a0 = some true
theorem replevinlaw01_LexBack.walk (P : replevinlaw01_LexBack.Pure) (a0 : ByteArray) (w : World) (w0 : a0.size ≤ 140737488351232) :
    Calls Try.prog 4 #[.string a0] w fun e w' => e = .returned (.bool true) ∧ Below w.heap.size w w' := by
  obtain ⟨k, h⟩ := P a0 w0
  refine (replevinlaw01_LexBack.calls k a0 true w h).mono ?_
  rintro e w' ⟨rfl, hd⟩
  exact ⟨rfl, hd⟩

end Go.Proofs.Ytaempeleddamlaa.P
