/- Lemmas and contracts for the functions of one layer of the program, used by the law's proof. No conditions beyond those typed. -/
import Derived.Test.YtaempeleddamlaaLexF
import Derived.Test.YtaempeleddamlaaKit
namespace Go.Proofs.Ytaempeleddamlaa
set_option linter.unusedVariables false
set_option linter.unusedSimpArgs false
open Go.RowKit Go.Proofs.YtaempeleddamlaaW.PrintWords Go.Proofs.YtaempeleddamlaaW.PrintLast Go.Proofs.YtaempeleddamlaaW.PrintMore Go.Proofs.Ytaempeleddamlaa.P

/-- Tokens, parted at each sign; what is left behind the last one. -/
def stL : List S35 → List S35 → List (List S35) × List S35
  | cur, [] => ([], cur)
  | cur, t :: l => if t.f0 = 3 then (cur :: (stL [] l).1, (stL [] l).2) else stL (cur ++ [t]) l
def stR (l : List S35) : List (List S35) × Int × Int :=
  match (stL [] l).2 with
  | [] => ((stL [] l).1, 0, 0)
  | t :: _ => ([], t.f3, 2)
abbrev kParts (w : World) : Kd (List S35) := Kd.fixed (Kd.slice 35 k35) w
theorem parts_info : (Try.prog.info? 23).map (fun i => (i.zero, i.size, i.bytes)) = some (some (.slice none 0 0), 1, 24) := by kernel_rfl
set_option maxHeartbeats 1000000 in
theorem Statements_any (A : Option Addr) (c : Nat) (l : List S35) (w : World) (hC : Kd.C k35 w A l.length l) (hc : l.length ≤ c) (hl : l.length ≤ 1000000) :
    Calls Try.prog 16 #[.slice A l.length c] w fun e w' => ∃ v, e = .returned (.tuple #[v, .int .i64 (stR l).2.1, .int .i64 (stR l).2.2]) ∧ (kParts w).R 23 w' w.heap.size (fun _ => True) v (stR l).1 ∧ Below w.heap.size w w' := by
  have hu := Try.underlying35
  have HC := Aside0.mk hC
  clear hC
  obtain ⟨i0, hi0, hz0, hz1, hz2⟩ := info_parts tok_info
  have hcut := Lib.hid (fun lo hi (h1 : lo ≤ hi) (h2 : hi ≤ l.length) => cut_lhh k35 23 35 Try.underlying23 hi0 hz1 A l.length c lo hi h1 h2 hc)
  clear hz0 hz1 hz2 hi0
  go_enter Try.func16, Try.ntmps16
  go_wp2
  go_loopw [5, 6, 11] (fun v f i w' => ∃ (fr k : Nat) (ps : List (List S35)), f = .int .i64 fr ∧ i = .int .i64 k ∧ fr ≤ k ∧ k ≤ l.length ∧ ps.length ≤ k ∧ Aside0 (stL [] l = (ps ++ (stL ((l.take k).drop fr) (l.drop k)).1, (stL ((l.take k).drop fr) (l.drop k)).2)) ∧ Aside0 ((kParts w).R 23 w' w.heap.size (fun _ => True) v ps) ∧ Aside0 (Below w.heap.size w w')) (fun _ _ i _ => l.length - (intOf i).toNat)
  case atStart => exact ⟨0, 0, [], rfl, rfl, by omega, by omega, by simp, ⟨by simp⟩, ⟨Kd.R_nil _ _ _ _ _⟩, ⟨Below.refl _ _⟩⟩
  case round =>
    obtain ⟨fr, k, ps, rfl, rfl, hfk, hk, hps, HJ, HO, HB⟩ := hrel
    by_cases hlt : k < l.length
    · obtain ⟨ad, e, hx0, hx1, hx2, hx3⟩ := at_T35 HC.out k (by omega) (by omega)
      cases e
      replace hx0 := pw_cell_below HB.out hx0
      replace hx1 := pw_cell_below HB.out hx1
      replace hx2 := pw_cell_below HB.out hx2
      replace hx3 := pw_cell_below HB.out hx3
      rw [Int.toNat_natCast] at hx0 hx1 hx2 hx3
      have HD := Lib.hid (drop_rd l k hlt)
      have HT : Hid ((l.take (k + 1)).drop fr = (l.take k).drop fr ++ [rd_T35 l k]) := by
        show _ = _
        rw [List.take_succ_eq_append_getElem hlt, List.drop_append_of_le_length (by rw [List.length_take]; omega)]
        simp [rd_T35, List.getD_eq_getElem?_getD, List.getElem?_eq_getElem hlt]
      obtain ⟨⟨t0, t1, t2, t3⟩, ht⟩ : ∃ t, t = rd_T35 l k := ⟨_, rfl⟩
      rw [← ht] at hx0 hx1 hx2 hx3 HD HT
      clear ht
      simp only [] at hx0 hx1 hx2 hx3
      by_cases h3 : t0 = 3
      · subst h3
        obtain ⟨A', hrun, hC'⟩ := hcut.out fr k hfk hk
        have HC' := Aside0.mk (hC' w l HC.out)
        clear hC'
        obtain ⟨A2, c2, rfl, hlc, hC2⟩ := Kd.R_reads HO.out
        clear hC2
        have hpl : ((l.take k).drop fr).length = k - fr := by rw [List.length_drop, List.length_take]; omega
        have HPL := Lib.hid hpl
        clear hpl
        go_wp2_with (first
          | (at_builtin; refine Kd.R_append (kParts w) (w0 := w) w.heap.size rfl (.tmp 19) (.tmp 25) 37 23 _ 24 rfl Try.underlying37 parts_info rfl Nat.zero_lt_one (by omega) (.slice A2 ps.length c2) ps ((l.take k).drop fr) [.slice A' (k - fr) (k - fr)] (fun _ => True) (fun _ => False) rfl (by simp [Act.eval]) ⟨A', k - fr, by rw [HPL.out], by rw [HPL.out]; exact Nat.le_refl _, by rw [HPL.out]; exact HC'.out⟩ (fun _ hk => hk.elim) (fun _ _ => trivial) (Kd.R_alloc HO.out _) (below_alloc HB.out _) ((below_alloc HB.out _).size) (by omega) ?_; intro v1 w2 ho hb2 hg hat; have HO2 := Aside0.mk ho; have HB2 := Aside0.mk hb2; clear ho hb2 hg hat))
        have HN : Hid ((l.take (k + 1)).drop (k + 1) = []) := List.drop_eq_nil_of_le (by rw [List.length_take]; omega)
        go_roundw
        case rel => exact ⟨k + 1, k + 1, ps ++ [(l.take k).drop fr], by go_num, by go_num, by omega, by omega, by simp; omega, ⟨by rw [HJ.out, HD.out, HN.out]; simp [stL]⟩, HO2, HB2⟩
        case measure => simp [intOf]; omega
      · have H3 := Lib.hid h3
        have h3b : (t0 == 3) = false := by simpa using h3
        clear h3
        go_wp2
        go_roundw
        case rel => exact ⟨fr, k + 1, ps, rfl, by go_num, by omega, by omega, by omega, ⟨by rw [HJ.out, HD.out, HT.out]; simp only [stL]; rw [if_neg H3.out]⟩, ⟨Kd.R_alloc HO.out _⟩, ⟨below_alloc HB.out _⟩⟩
        case measure => simp [intOf]; omega
    · obtain rfl : k = l.length := by omega
      have HE : Hid (stL [] l = (ps, l.drop fr)) := by
        show _ = _
        rw [HJ.out]
        simp [stL]
      clear HJ
      by_cases hfl : fr < l.length
      · obtain ⟨ad, e, hx0, hx1, hx2, hx3⟩ := at_T35 HC.out fr (by omega) (by omega)
        cases e
        clear hx0 hx1 hx2
        replace hx3 := pw_cell_below HB.out hx3
        rw [Int.toNat_natCast] at hx3
        have HD := Lib.hid (drop_rd l fr hfl)
        generalize rd_T35 l fr = t at *
        have hi0 : (0 : Int) ≤ fr := by omega
        have hi1 : (fr : Int) < l.length := by omega
        go_wp2
        go_quiet (fail)
        go_wp2
        go_ret3
        have hR : stR l = ([], t.f3, 2) := by unfold stR; rw [HE.out, HD.out]
        rw [hR]
        exact ⟨_, rfl, Kd.R_nil _ _ _ _ _, pw_below_drewN HB.out _⟩
      · go_wp2
        go_ret3
        have hR : stR l = (ps, 0, 0) := by unfold stR; rw [HE.out, List.drop_eq_nil_of_le (by omega)]
        rw [hR]
        exact ⟨_, rfl, HO.out, HB.out⟩
end Go.Proofs.Ytaempeleddamlaa
