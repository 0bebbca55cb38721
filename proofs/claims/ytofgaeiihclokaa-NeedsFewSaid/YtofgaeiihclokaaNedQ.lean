/- What the reference of the layer needs tells, in plain words. No program in sight. No conditions beyond those typed. -/
import Derived.Test.YtofgaeiihclokaaNedP
namespace Go.Proofs.Ytofgaeiihclokaa.P
open Go.RowKit Go.Shelf Go.Lib Go.Sort Go.Maps Go.Proofs.YtofgaeiihclokaaW.PrintWords Go.Proofs.YtofgaeiihclokaaW.PrintLast Go.Proofs.YtofgaeiihclokaaW.PrintMore
set_option linter.unusedVariables false
set_option linter.unusedSimpArgs false

/-- The reference's Calls. -/
theorem rcalls_ev (E : List S68) (T : List S48) (a : Int) (hE : E.length < 4398046511104) (hT : T.length < 4398046511104) : Ev (fun k => replevinref07_Calls.f k E (T.map conv) a) (pick E.length (callsB E.length T a)) := by
  by_cases hin : 0 ≤ a ∧ a < (E.length : Int)
  · have hb : ∀ i, callsB E.length T a i = tiedB T 2 a i := fun i => by
      unfold callsB inB
      rw [decide_eq_true hin.1, decide_eq_true hin.2]
      simp
    have h : ∀ m i, i + m = E.length → Ev (fun k => replevinref07_Calls.l0 k a (pick i (callsB E.length T a)) (i : Int) E (T.map conv)) (pick E.length (callsB E.length T a)) := by
      intro m
      induction m with
      | zero =>
        intro i hi
        obtain rfl : i = E.length := by omega
        apply Ev.stp
        · intro k; rw [replevinref07_Calls.l0, if_neg (by omega)]
        exact Ev.done (fun k => by rw [replevinref07_Calls.j1, if_neg (by simp)])
      | succ m ih =>
        intro i hi
        have hl := pick_length i (callsB E.length T a)
        apply Ev.stp
        · intro k; rw [replevinref07_Calls.l0, if_pos (by omega), if_pos (by omega), decide_eq_true hin.2]
        apply Ev.stp
        · intro k; rw [replevinref07_Calls.j1, if_pos rfl]
        have hih := ih (i + 1) (by omega)
        refine Ev.bind (tied_ev E T 2 a i hT) ?_
        rw [pick_succ i (callsB E.length T a), hb i] at hih
        cases h1 : tiedB T 2 a i with
        | true =>
          rw [h1] at hih
          exact hih.same (fun k => by rw [if_pos rfl, if_pos (by omega), w64 i (by omega)]; rfl)
        | false =>
          rw [h1] at hih
          exact hih.same (fun k => by rw [if_neg (by simp), w64 i (by omega)]; rfl)
    exact h E.length 0 (by omega)
  · have hb : ∀ i, callsB E.length T a i = false := fun i => by
      unfold callsB inB
      rw [← Bool.not_eq_true]
      simp only [Bool.and_eq_true, decide_eq_true_eq]
      intro h
      exact hin h.1
    rw [pick_false (fun i _ => hb i)]
    refine Ev.step (h := fun k => replevinref07_Calls.j1 k a [] 0 false E (T.map conv)) (Ev.done (fun k => ?_)) (fun k => ?_)
    · rw [replevinref07_Calls.j1, if_neg (by simp)]
    · show replevinref07_Calls.l0 (k + 1) a [] 0 E (T.map conv) = _
      rw [replevinref07_Calls.l0]
      by_cases h0 : (0 : Int) < (E.length : Int)
      · rw [if_pos h0]
        by_cases h1 : a ≥ 0
        · rw [if_pos h1, decide_eq_false (fun h2 => hin ⟨h1, h2⟩)]
        · rw [if_neg h1]
      · rw [if_neg h0]

theorem map_range_succ {α : Type} (n : Nat) (f : Nat → α) : (List.range (n + 1)).map f = (List.range n).map f ++ [f n] := by
  rw [List.range_succ, List.map_append]
  rfl
/-- The reference's Net. -/
theorem rnet_ev (E : List S68) (T : List S48) (hE : E.length < 4398046511104) (hT : T.length < 4398046511104) : Ev (fun k => replevinref07_Net.f k E (T.map conv)) ((List.range E.length).map fun i => pick E.length (needB T i)) := by
  have h1 : ∀ (a : Nat), a < E.length → Ev (fun k => replevinref07_Net.l0 k ((List.range (a + 1)).map fun i => pick E.length (needB T i)) (((a + 1 : Nat) : Int)) E (T.map conv)) ((List.range E.length).map fun i => pick E.length (needB T i)) →
      ∀ m i, i + m = E.length → Ev (fun k => replevinref07_Net.l1 k ((List.range a).map fun i => pick E.length (needB T i)) (a : Int) (pick i (needB T a)) (i : Int) E (T.map conv)) ((List.range E.length).map fun i => pick E.length (needB T i)) := by
    intro a ha hnext m
    induction m with
    | zero =>
      intro i hi
      obtain rfl : i = E.length := by omega
      refine Ev.step hnext (fun k => ?_)
      rw [replevinref07_Net.l1, if_neg (by omega), if_pos (by simp; omega), w64 a (by omega), map_range_succ]
    | succ m ih =>
      intro i hi
      have hl := pick_length i (needB T a)
      apply Ev.stp
      · intro k; rw [replevinref07_Net.l1, if_pos (by omega)]
      have hih := ih (i + 1) (by omega)
      refine Ev.bind (tied_ev E T 1 i a hT) ?_
      have hs := pick_succ i (needB T a)
      have hn : needB T a i = (tiedB T 1 i a || tiedB T 5 i a || tiedB T 2 a i) := rfl
      cases e1 : tiedB T 1 i a with
      | true =>
        rw [hs, hn, e1] at hih
        exact hih.same (fun k => by rw [if_pos rfl, if_pos (by omega), w64 i (by omega)]; rfl)
      | false =>
        apply Ev.sam
        · intro k; rw [if_neg (by simp)]
        refine Ev.bind (tied_ev E T 5 i a hT) ?_
        cases e5 : tiedB T 5 i a with
        | true =>
          rw [hs, hn, e1, e5] at hih
          exact hih.same (fun k => by rw [if_pos rfl, if_pos (by omega), w64 i (by omega)]; rfl)
        | false =>
          apply Ev.sam
          · intro k; rw [if_neg (by simp)]
          refine Ev.bind (tied_ev E T 2 a i hT) ?_
          cases e2 : tiedB T 2 a i with
          | true =>
            rw [hs, hn, e1, e5, e2] at hih
            exact hih.same (fun k => by rw [if_pos rfl, if_pos (by omega), w64 i (by omega)]; rfl)
          | false =>
            rw [hs, hn, e1, e5, e2] at hih
            exact hih.same (fun k => by rw [if_neg (by simp), w64 i (by omega)]; rfl)
  have h0 : ∀ m a, a + m = E.length → Ev (fun k => replevinref07_Net.l0 k ((List.range a).map fun i => pick E.length (needB T i)) (a : Int) E (T.map conv)) ((List.range E.length).map fun i => pick E.length (needB T i)) := by
    intro m
    induction m with
    | zero =>
      intro a ha
      obtain rfl : a = E.length := by omega
      exact Ev.done (fun k => by rw [replevinref07_Net.l0, if_neg (by omega)])
    | succ m ih =>
      intro a ha
      refine Ev.step (h1 a (by omega) (ih (a + 1) (by omega)) E.length 0 (by omega)) (fun k => ?_)
      rw [replevinref07_Net.l0, if_pos (by omega)]
      rfl
  exact h0 E.length 0 (by omega)

/-- The reference's Called. -/
theorem rcalled_ev (E : List S68) (T : List S48) (hE : E.length < 4398046511104) (hT : T.length < 4398046511104) : Ev (fun k => replevinref07_Called.f k E (T.map conv)) (pick E.length (calledB E T)) := by
  have h1 : ∀ (a : Nat), a < E.length → Ev (fun k => replevinref07_Called.l0 k (pick (a + 1) (calledB E T)) (((a + 1 : Nat) : Int)) E (T.map conv)) (pick E.length (calledB E T)) →
      ∀ m i, i + m = E.length → Ev (fun k => replevinref07_Called.l1 k (pick a (calledB E T)) (a : Int) (decide (0 ≤ (E.getD a z68).f5) || (List.range i).any fun j => tiedB T 2 j a) (i : Int) E (T.map conv)) (pick E.length (calledB E T)) := by
    intro a ha hnext m
    have hl := pick_length a (calledB E T)
    have hs := pick_succ a (calledB E T)
    have hn : calledB E T a = (decide (0 ≤ (E.getD a z68).f5) || (List.range E.length).any fun j => tiedB T 2 j a) := rfl
    rw [hs, hn] at hnext
    induction m with
    | zero =>
      intro i hi
      obtain rfl : i = E.length := by omega
      cases hb : (decide (0 ≤ (E.getD a z68).f5) || (List.range E.length).any fun j => tiedB T 2 j a) with
      | true =>
        rw [hb] at hnext
        exact Ev.step hnext (fun k => by rw [replevinref07_Called.l1, if_neg (by omega), if_pos rfl, if_pos (by omega), w64 a (by omega)]; rfl)
      | false =>
        rw [hb] at hnext
        exact Ev.step hnext (fun k => by rw [replevinref07_Called.l1, if_neg (by omega), if_neg (by simp), w64 a (by omega)]; rfl)
    | succ m ih =>
      intro i hi
      have hih := ih (i + 1) (by omega)
      have ha1 : (List.range (i + 1)).any (fun j => tiedB T 2 j a) = ((List.range i).any (fun j => tiedB T 2 j a) || tiedB T 2 i a) := by rw [List.range_succ, List.any_append]; simp
      rw [ha1, ← Bool.or_assoc] at hih
      cases hb : (decide (0 ≤ (E.getD a z68).f5) || (List.range i).any fun j => tiedB T 2 j a) with
      | true =>
        rw [hb, Bool.true_or] at hih
        exact Ev.step hih (fun k => by rw [replevinref07_Called.l1, if_pos (by omega), if_pos rfl, w64 i (by omega)])
      | false =>
        rw [hb, Bool.false_or] at hih
        apply Ev.stp
        · intro k; rw [replevinref07_Called.l1, if_pos (by omega), if_neg (by simp)]
        refine Ev.bind (tied_ev E T 2 i a hT) ?_
        exact hih.same (fun k => by rw [w64 i (by omega)])
  have h0 : ∀ m a, a + m = E.length → Ev (fun k => replevinref07_Called.l0 k (pick a (calledB E T)) (a : Int) E (T.map conv)) (pick E.length (calledB E T)) := by
    intro m
    induction m with
    | zero =>
      intro a ha
      obtain rfl : a = E.length := by omega
      exact Ev.done (fun k => by rw [replevinref07_Called.l0, if_neg (by omega)])
    | succ m ih =>
      intro a ha
      have h2 := h1 a (by omega) (ih (a + 1) (by omega)) E.length 0 (by omega)
      rw [show (decide (0 ≤ (E.getD a z68).f5) || (List.range 0).any fun j => tiedB T 2 j a) = decide (0 ≤ (E.getD a z68).f5) by simp] at h2
      refine Ev.step h2 (fun k => ?_)
      rw [replevinref07_Called.l0, if_pos (by omega), if_pos (by omega)]
      rfl
  exact h0 E.length 0 (by omega)

/-- The reference's Excluded. -/
theorem rexcluded_ev (E : List S68) (T : List S48) (hE : E.length < 4398046511104) (hT : T.length < 4398046511104) : Ev (fun k => replevinref07_Excluded.f k E (T.map conv)) (pick E.length (outB E T)) := by
  have h1 : ∀ (a : Nat), a < E.length → Ev (fun k => replevinref07_Excluded.l0 k (pick (a + 1) (outB E T)) (((a + 1 : Nat) : Int)) E (T.map conv)) (pick E.length (outB E T)) →
      ∀ m i, i + m = E.length → Ev (fun k => replevinref07_Excluded.l1 k (pick a (outB E T)) (a : Int) (!(E.getD a z68).f3 || (List.range i).any fun j => tiedB T 4 j a) (i : Int) E (T.map conv)) (pick E.length (outB E T)) := by
    intro a ha hnext m
    have hl := pick_length a (outB E T)
    have hs := pick_succ a (outB E T)
    have hn : outB E T a = (!(E.getD a z68).f3 || (List.range E.length).any fun j => tiedB T 4 j a) := rfl
    rw [hs, hn] at hnext
    induction m with
    | zero =>
      intro i hi
      obtain rfl : i = E.length := by omega
      cases hb : (!(E.getD a z68).f3 || (List.range E.length).any fun j => tiedB T 4 j a) with
      | true =>
        rw [hb] at hnext
        exact Ev.step hnext (fun k => by rw [replevinref07_Excluded.l1, if_neg (by omega), if_pos rfl, if_pos (by omega), w64 a (by omega)]; rfl)
      | false =>
        rw [hb] at hnext
        exact Ev.step hnext (fun k => by rw [replevinref07_Excluded.l1, if_neg (by omega), if_neg (by simp), w64 a (by omega)]; rfl)
    | succ m ih =>
      intro i hi
      have hih := ih (i + 1) (by omega)
      have ha1 : (List.range (i + 1)).any (fun j => tiedB T 4 j a) = ((List.range i).any (fun j => tiedB T 4 j a) || tiedB T 4 i a) := by rw [List.range_succ, List.any_append]; simp
      rw [ha1, ← Bool.or_assoc] at hih
      cases hb : (!(E.getD a z68).f3 || (List.range i).any fun j => tiedB T 4 j a) with
      | true =>
        rw [hb, Bool.true_or] at hih
        exact Ev.step hih (fun k => by rw [replevinref07_Excluded.l1, if_pos (by omega), if_pos rfl, w64 i (by omega)])
      | false =>
        rw [hb, Bool.false_or] at hih
        apply Ev.stp
        · intro k; rw [replevinref07_Excluded.l1, if_pos (by omega), if_neg (by simp)]
        refine Ev.bind (tied_ev E T 4 i a hT) ?_
        exact hih.same (fun k => by rw [w64 i (by omega)])
  have h0 : ∀ m a, a + m = E.length → Ev (fun k => replevinref07_Excluded.l0 k (pick a (outB E T)) (a : Int) E (T.map conv)) (pick E.length (outB E T)) := by
    intro m
    induction m with
    | zero =>
      intro a ha
      obtain rfl : a = E.length := by omega
      exact Ev.done (fun k => by rw [replevinref07_Excluded.l0, if_neg (by omega)])
    | succ m ih =>
      intro a ha
      have h2 := h1 a (by omega) (ih (a + 1) (by omega)) E.length 0 (by omega)
      rw [show (!(E.getD a z68).f3 || (List.range 0).any fun j => tiedB T 4 j a) = !(E.getD a z68).f3 by simp] at h2
      refine Ev.step h2 (fun k => ?_)
      rw [replevinref07_Excluded.l0, if_pos (by omega), if_pos (by omega)]
      rfl
  exact h0 E.length 0 (by omega)

/-- The greatest delay. -/
def delayB (n : Nat) (T : List S48) (a m : Int) : Int := T.foldl (fun m t => if t.f0 = 1 ∧ t.f2 = a ∧ twoB n t = true then mx m t.f3 else m) m
theorem delay_ev (E : List S68) (T : List S48) (a : Int) (hT : T.length < 4398046511104) : Ev (fun k => needs_Delay.f k E T a) (delayB E.length T a 0) := by
  have h : ∀ m i v, i + m = T.length → Ev (fun k => needs_Delay.l0 k a v T (T.length : Int) (i : Int) E T) (delayB E.length (T.drop i) a v) := by
    intro m
    induction m with
    | zero =>
      intro i v hi
      rw [List.drop_of_length_le (by omega)]
      exact Ev.done (fun k => by rw [needs_Delay.l0, if_neg (by omega)]; rfl)
    | succ m ih =>
      intro i v hi
      have hr : rd_T48 T (i : Int) = T[i]'(by omega) := by
        show T.getD _ _ = _
        simp [List.getD_eq_getElem?_getD, show i < T.length by omega]
      have hd : delayB E.length (T.drop i) a v = delayB E.length (T.drop (i + 1)) a (if (T[i]'(by omega)).f0 = 1 ∧ (T[i]'(by omega)).f2 = a ∧ twoB E.length (T[i]'(by omega)) = true then mx v (T[i]'(by omega)).f3 else v) := by
        rw [List.drop_eq_getElem_cons (show i < T.length by omega)]
        rfl
      have htw : needs_two.f E T (T[i]'(by omega)).f0 (T[i]'(by omega)).f1 (T[i]'(by omega)).f2 (T[i]'(by omega)).f3 = some (twoB E.length (T[i]'(by omega))) := by
        unfold needs_two.f twoB
        have e1 : mn (T[i]'(by omega)).f1 (T[i]'(by omega)).f2 = min (T[i]'(by omega)).f1 (T[i]'(by omega)).f2 := by unfold mn; omega
        have e2 : mx (T[i]'(by omega)).f1 (T[i]'(by omega)).f2 = max (T[i]'(by omega)).f1 (T[i]'(by omega)).f2 := by unfold mx; omega
        rw [e1, e2]
        split
        · rename_i h; rw [decide_eq_true (show 0 ≤ min (T[i]'(by omega)).f1 (T[i]'(by omega)).f2 from h)]; rfl
        · rename_i h; rw [decide_eq_false (show ¬ 0 ≤ min (T[i]'(by omega)).f1 (T[i]'(by omega)).f2 from h)]; rfl
      rw [hd]
      refine Ev.step (ih (i + 1) _ (by omega)) (fun k => ?_)
      rw [needs_Delay.l0, if_pos (by omega), if_pos (by omega), if_pos (by omega), hr, htw, Option.bind_some, w64 i (by omega)]
      by_cases e1 : (T[i]'(by omega)).f0 = 1
      · by_cases e2 : (T[i]'(by omega)).f2 = a
        · by_cases e3 : twoB E.length (T[i]'(by omega)) = true
          · rw [if_pos e1, if_pos e2, if_pos e3, if_pos (show (T[i]'(by omega)).f0 = 1 ∧ (T[i]'(by omega)).f2 = a ∧ twoB E.length (T[i]'(by omega)) = true from ⟨e1, e2, e3⟩)]
          · rw [if_pos e1, if_pos e2, if_neg e3, if_neg (fun h => e3 h.2.2)]
        · rw [if_pos e1, if_neg e2, if_neg (fun h => e2 h.2.1)]
      · rw [if_neg e1, if_neg (fun h => e1 h.1)]
  exact h T.length 0 0 (by omega)
theorem rdelay_ev (E : List S68) (T : List S48) (a : Int) (hT : T.length < 4398046511104) : Ev (fun k => replevinref07_Delay.f k E (T.map conv) a) (delayB E.length T a 0) := by
  have h : ∀ m i v, i + m = T.length → Ev (fun k => replevinref07_Delay.l0 k a v (i : Int) E (T.map conv)) (delayB E.length (T.drop i) a v) := by
    intro m
    induction m with
    | zero =>
      intro i v hi
      rw [List.drop_of_length_le (by omega)]
      exact Ev.done (fun k => by rw [replevinref07_Delay.l0, if_neg (by simp; omega)]; rfl)
    | succ m ih =>
      intro i v hi
      have hd : delayB E.length (T.drop i) a v = delayB E.length (T.drop (i + 1)) a (if (T[i]'(by omega)).f0 = 1 ∧ (T[i]'(by omega)).f2 = a ∧ twoB E.length (T[i]'(by omega)) = true then mx v (T[i]'(by omega)).f3 else v) := by
        rw [List.drop_eq_getElem_cons (show i < T.length by omega)]
        rfl
      rw [hd]
      refine Ev.step (ih (i + 1) _ (by omega)) (fun k => ?_)
      rw [replevinref07_Delay.l0, if_pos (by simp; omega), if_pos (by omega), rd69 T i (by omega), w64 i (by omega)]
      generalize T[i]'(by omega) = t
      by_cases hc : t.f0 = 1 ∧ t.f2 = a ∧ twoB E.length t = true
      · obtain ⟨h1, h2, h3⟩ := hc
        rw [if_pos (show t.f0 = 1 ∧ t.f2 = a ∧ twoB E.length t = true from ⟨h1, h2, h3⟩)]
        rw [twoB_iff] at h3
        obtain ⟨⟨h4, h5⟩, h6, h7⟩ := h3
        rw [if_pos (show (conv t).f0 = 1 from h1), if_pos (show (conv t).f2 = a from h2), if_pos (show a ≥ 0 by omega), if_pos (show a < (E.length : Int) by omega), if_pos (show (conv t).f1 ≥ 0 from h4), if_pos (show (conv t).f1 < (E.length : Int) from h5)]
        by_cases e : t.f3 > v
        · rw [if_pos (show (conv t).f3 > v from e), show mx v t.f3 = t.f3 by unfold mx; omega]
          rfl
        · rw [if_neg (show ¬ (conv t).f3 > v from e), show mx v t.f3 = v by unfold mx; omega]
      · rw [if_neg hc]
        by_cases h1 : (conv t).f0 = 1
        · rw [if_pos h1]
          by_cases h2 : (conv t).f2 = a
          · rw [if_pos h2]
            by_cases h3 : a ≥ 0
            · rw [if_pos h3]
              by_cases h4 : a < (E.length : Int)
              · rw [if_pos h4]
                by_cases h5 : (conv t).f1 ≥ 0
                · rw [if_pos h5]
                  by_cases h6 : (conv t).f1 < (E.length : Int)
                  · exact absurd ⟨h1, h2, twoB_iff.2 ⟨⟨h5, h6⟩, by have e2 : t.f2 = a := h2; omega, by have e2 : t.f2 = a := h2; omega⟩⟩ hc
                  · rw [if_neg h6]
                · rw [if_neg h5]
              · rw [if_neg h4]
            · rw [if_neg h3]
          · rw [if_neg h2]
        · rw [if_neg h1]
  exact h T.length 0 0 (by omega)
end Go.Proofs.Ytofgaeiihclokaa.P
