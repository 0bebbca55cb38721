/- Lemmas and contracts for the functions of one layer of the program, used by the law's proof. No conditions beyond those typed. -/
import Derived.Test.YtaempeleddamlaaLexG
namespace Go.Proofs.Ytaempeleddamlaa
set_option linter.unusedVariables false
set_option linter.unusedSimpArgs false
open Go.RowKit Go.Proofs.YtaempeleddamlaaW.PrintWords Go.Proofs.YtaempeleddamlaaW.PrintLast Go.Proofs.YtaempeleddamlaaW.PrintMore Go.Proofs.Ytaempeleddamlaa.P

def awT0 : S35 := ⟨1, ⟨#[97, 98]⟩, 0, 0⟩
def awT1 : S35 := ⟨2, ⟨#[49, 50]⟩, 12, 3⟩
def awT2 : S35 := ⟨3, ⟨#[59]⟩, 0, 5⟩
def awT3 : S35 := ⟨1, ⟨#[97]⟩, 0, 9⟩
theorem aw_lex : lexR ⟨#[97, 98, 32, 49, 50, 59]⟩ = ([awT0, awT1, awT2], 0, 0) := by kernel_rfl
theorem aw_lex2 : lexR ⟨#[97, 32, 55, 120]⟩ = ([], 2, 2) := by kernel_rfl
theorem aw_st : stR [awT0, awT1, awT2] = ([[awT0, awT1]], 0, 0) := by kernel_rfl
theorem aw_st2 : stR [awT3] = ([], 9, 2) := by kernel_rfl
theorem aw_join : joinL true [awT0, awT1, awT2] = [97, 98, 32, 49, 50, 59, 10] := by kernel_rfl
theorem aw_name : nameR ⟨#[97, 95, 49]⟩ = true := by kernel_rfl
theorem aw_name2 : nameR ⟨#[49, 97]⟩ = false := by kernel_rfl

theorem aw_Lex (w : World) : Calls Try.prog 9 #[.string ⟨#[97, 98, 32, 49, 50, 59]⟩] w fun e w' => ∃ A c, e = .returned (.tuple #[.slice A 3 c, .int .i64 0, .int .i64 0]) ∧ 3 ≤ c ∧ Kd.C k35 w' A 3 [awT0, awT1, awT2] ∧ Below w.heap.size w w' := by
  refine (Lex_any ⟨#[97, 98, 32, 49, 50, 59]⟩ (by decide) w).mono ?_
  rintro e w' ⟨v, he, hR, hB⟩
  rw [aw_lex] at he hR
  obtain ⟨A, c, rfl, hl, hC⟩ := Kd.R_reads hR
  exact ⟨A, c, he, hl, hC, hB⟩
theorem aw_Lex2 (w : World) : Calls Try.prog 9 #[.string ⟨#[97, 32, 55, 120]⟩] w fun e w' => ∃ v, e = .returned (.tuple #[v, .int .i64 2, .int .i64 2]) ∧ Below w.heap.size w w' := by
  refine (Lex_any ⟨#[97, 32, 55, 120]⟩ (by decide) w).mono ?_
  rintro e w' ⟨v, he, hR, hB⟩
  rw [aw_lex2] at he
  exact ⟨v, he, hB⟩
theorem aw_St (A : Option Addr) (c : Nat) (w : World) (hC : Kd.C k35 w A 3 [awT0, awT1, awT2]) (hc : 3 ≤ c) : Calls Try.prog 16 #[.slice A 3 c] w fun e w' => ∃ ad c1 A2 c2, e = .returned (.tuple #[.slice (some ad) 1 c1, .int .i64 0, .int .i64 0]) ∧ w'.cell? ad = some (.slice A2 2 c2) ∧ Below w.heap.size w w' := by
  refine (Statements_any A c [awT0, awT1, awT2] w hC hc (by decide)).mono ?_
  rintro e w' ⟨v, he, hR, hB⟩
  rw [aw_st] at he hR
  obtain ⟨A', c', rfl, hl, hC⟩ := Kd.R_reads hR
  obtain ⟨ad, cs, rfl, h1, ⟨A2, c2, rfl, h3, h4⟩, h5⟩ := Kd.C_get hC [] 0 (by omega) (by decide)
  exact ⟨ad, c', A2, c2, he, by simpa [Addr.add] using h5 0 _ rfl, hB⟩
theorem aw_St2 (g : Nat) (w : World) (hg : w.heap[g]? = some (.cells #[.int .i64 1, .string ⟨#[97]⟩, .int .i64 0, .int .i64 9] 35 (0, 0))) : Calls Try.prog 16 #[.slice (some ⟨g, 0, none⟩) 1 1] w fun e w' => ∃ v, e = .returned (.tuple #[v, .int .i64 9, .int .i64 2]) ∧ Below w.heap.size w w' := by
  refine (Statements_any (some ⟨g, 0, none⟩) 1 [awT3] w ⟨rfl, by decide, fun _ => ⟨_, rfl, fun j p hj => ?_⟩⟩ (Nat.le_refl _) (by decide)).mono ?_
  · obtain rfl : j = 0 := by
      have := (List.getElem?_eq_some_iff.1 hj).1
      simp at this
      exact this
    obtain rfl : awT3 = p := by simpa using hj
    refine ⟨_, rfl, k35_mk _ _, fun i u hu => ?_⟩
    rw [add_plain, blk_cell hg]
    have hu' : [Value.int .i64 1, .string ⟨#[97]⟩, .int .i64 0, .int .i64 9][i]? = some u := hu
    simpa using hu'
  · rintro e w' ⟨v, he, hR, hB⟩
    rw [aw_st2] at he
    exact ⟨v, he, hB⟩
theorem aw_Join (A : Option Addr) (c : Nat) (w : World) (hC : Kd.C k35 w A 3 [awT0, awT1, awT2]) (hc : 3 ≤ c) : Calls Try.prog 15 #[.slice A 3 c] w fun e w' => e = .returned (.string ⟨#[97, 98, 32, 49, 50, 59, 10]⟩) ∧ Below w.heap.size w w' := by
  refine (Join_any A c [awT0, awT1, awT2] w hC hc (by rw [aw_join]; decide)).mono ?_
  rintro e w' ⟨he, hB⟩
  rw [aw_join] at he
  exact ⟨he, hB⟩
set_option maxHeartbeats 2000000 in
theorem awake_any (w : World) : Calls Try.prog 8 #[] w fun e w' => e = .returned (.bool true) ∧ Below w.heap.size w w' := by
  have hn := Lib.hid (fun w => Name_any ⟨#[97, 95, 49]⟩ (by decide) w)
  have hn2 := Lib.hid (fun w => Name_any ⟨#[49, 97]⟩ (by decide) w)
  rw [aw_name] at hn
  rw [aw_name2] at hn2
  have hu := Try.underlying35
  have e0 : ∀ W, (binOp .eql 35 (.agg #[.int .i64 1, .string ⟨#[97, 98]⟩, .int .i64 0, .int .i64 0]) (.agg #[.int .i64 1, .string ⟨#[97, 98]⟩, .int .i64 0, .int .i64 0])).run Try.prog W = .ok (.bool true) W := fun _ => by kernel_rfl
  have e1 : ∀ W, (binOp .eql 35 (.agg #[.int .i64 2, .string ⟨#[49, 50]⟩, .int .i64 12, .int .i64 3]) (.agg #[.int .i64 2, .string ⟨#[49, 50]⟩, .int .i64 12, .int .i64 3])).run Try.prog W = .ok (.bool true) W := fun _ => by kernel_rfl
  have e2 : ∀ W, (binOp .eql 35 (.agg #[.int .i64 3, .string ⟨#[59]⟩, .int .i64 0, .int .i64 5]) (.agg #[.int .i64 3, .string ⟨#[59]⟩, .int .i64 0, .int .i64 5])).run Try.prog W = .ok (.bool true) W := fun _ => by kernel_rfl
  go_enter Try.func8, Try.ntmps8
  go_wp2_with fail
  refine (aw_Lex _).mono ?_
  rintro e w1 ⟨A, c, rfl, hc, hC1, hb1⟩
  have HC1 := Aside0.mk hC1
  have HB1 := Aside0.mk hb1
  clear hC1 hb1
  go_wp2_with fail
  refine (aw_Lex2 _).mono ?_
  rintro e w2 ⟨v2, rfl, hb2⟩
  have HC2 := Aside0.mk (Kd.C_below HC1.out hb2)
  have HB2 := Aside0.mk (HB1.out.trans (hb2.mono HB1.out.size))
  clear hb2 HC1 HB1
  go_wp2_with fail
  refine (aw_St _ _ _ HC2.out hc).mono ?_
  rintro e w3 ⟨ad3, c1, A2, c2, rfl, hcell, hb3⟩
  have HC3 := Aside0.mk (Kd.C_below HC2.out hb3)
  have HB3 := Aside0.mk (HB2.out.trans (hb3.mono HB2.out.size))
  clear hb3 HC2 HB2
  go_wp2_with fail
  refine (aw_St2 _ _ (blk_new w3 _)).mono ?_
  rintro e w4 ⟨v4, rfl, hb4⟩
  have hb4' := (below_alloc (Below.refl w3.heap.size w3) (.cells #[.int .i64 1, .string ⟨#[97]⟩, .int .i64 0, .int .i64 9] 35)).trans (hb4.mono (by simp))
  have HC4 := Aside0.mk (Kd.C_below HC3.out hb4')
  have HB4 := Aside0.mk (HB3.out.trans (hb4'.mono HB3.out.size))
  replace hcell := pw_cell_below hb4' hcell
  clear hb4 hb4' HC3 HB3
  obtain ⟨ad, ee, hx0, hx1, hx2, hx3⟩ := at_T35 HC4.out 0 (by omega) (by omega)
  cases ee
  obtain ⟨ad', ee, hy0, hy1, hy2, hy3⟩ := at_T35 HC4.out 1 (by omega) (by omega)
  cases ee
  obtain ⟨ad', ee, hz0, hz1, hz2, hz3⟩ := at_T35 HC4.out 2 (by omega) (by omega)
  cases ee
  simp only [rd_T35, awT0, awT1, awT2, show (0 : Int).toNat = 0 from rfl, show (1 : Int).toNat = 1 from rfl, show (2 : Int).toNat = 2 from rfl, List.getD_cons_zero, List.getD_cons_succ, Nat.zero_mul, Nat.one_mul] at hx0 hx1 hx2 hx3 hy0 hy1 hy2 hy3 hz0 hz1 hz2 hz3
  have hadd : ad.add 0 = ad := by simp [Addr.add]
  have hadd4 : ad.add 4 = ⟨ad.block, ad.off + 4, none⟩ := by simp [Addr.add]
  have hadd8 : ad.add (2 * 4) = ⟨ad.block, ad.off + 8, none⟩ := by simp [Addr.add]
  rw [hadd] at hx0 hx1 hx2 hx3
  rw [hadd4] at hy0 hy1 hy2 hy3
  rw [hadd8] at hz0 hz1 hz2 hz3
  clear hadd hadd4 hadd8
  go_wp2_with (first
    | (go_at_call 13; (first | ((with_reducible refine (hn.out _).mono ?_); rintro e w' ⟨rfl, rfl⟩) | ((with_reducible refine (hn2.out _).mono ?_); rintro e w' ⟨rfl, rfl⟩)))
    | (go_at_call 15; refine (aw_Join _ _ _ HC4.out hc).mono ?_; rintro e w5 ⟨rfl, hb5⟩; replace hcell := pw_cell_below hb5 hcell; have HB5 := Aside0.mk (HB4.out.trans (hb5.mono HB4.out.size)); clear hb5))
  go_ret
  exact ⟨rfl, HB5.out⟩
end Go.Proofs.Ytaempeleddamlaa
