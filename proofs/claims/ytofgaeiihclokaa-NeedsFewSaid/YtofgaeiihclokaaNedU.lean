/- What matters: the layer and its reference tell the same; like lists are the same. No program in sight. No conditions beyond those typed. -/
import Derived.Test.YtofgaeiihclokaaNedS
namespace Go.Proofs.Ytofgaeiihclokaa.P
open Go.RowKit Go.Shelf Go.Lib Go.Sort Go.Maps Go.Proofs.YtofgaeiihclokaaW.PrintWords Go.Proofs.YtofgaeiihclokaaW.PrintLast Go.Proofs.YtofgaeiihclokaaW.PrintMore
set_option linter.unusedVariables false
set_option linter.unusedSimpArgs false

theorem sum_le (n M : Nat) (f : Nat → Nat) (h : ∀ i, i < n → f i ≤ M) : ((List.range n).map f).sum ≤ n * M := by
  induction n with
  | zero => simp
  | succ n ih =>
    rw [map_range_succ, List.sum_append]
    have := ih (fun i hi => h i (by omega))
    have h2 := h n (by omega)
    simp only [List.sum_cons, List.sum_nil, Nat.add_zero]
    rw [Nat.add_mul]
    omega
theorem ways_le (N : List (List Int)) (i : Nat) : (waysL N i).length ≤ (N.getD i []).length := List.length_filter_le _ _
theorem rest_le (N : List (List Int)) (M : Nat) (h : ∀ i, i < N.length → (N.getD i []).length ≤ M) : rest N (fun _ => false) ≤ N.length * M :=
  sum_le _ _ _ (fun i hi => by simp only [Bool.false_eq_true, if_false]; exact Nat.le_trans (ways_le N i) (h i hi))
theorem netL_row (E : List S68) (T : List S48) (i : Nat) (hi : i < (netL E T).length) : ((netL E T).getD i []).length ≤ E.length := by
  rw [netL_length] at hi
  rw [netL_at E T hi]
  exact pick_length _ _
theorem net_reach_ev (E : List S68) (T : List S48) (hE : E.length < 1000000) (c : Nat) (hc : c < E.length) : Ev (fun k => ring_Reach.f k (netL E T) (c : Int)) (pick E.length (reachB (netL E T) c)) := by
  have hr := rest_le (netL E T) E.length (netL_row E T)
  have hw := Nat.le_trans (ways_le (netL E T) c) (netL_row E T c (by rw [netL_length]; exact hc))
  have hm : E.length * E.length ≤ 1000000 * 1000000 := Nat.mul_le_mul (by omega) (by omega)
  have hl := netL_length E T
  have := reach_ev (netL E T) c (by rw [hl]; exact hc) (by rw [hl]; omega) (fun i hi => by have := netL_row E T i hi; omega) (by rw [hl] at hr; omega)
  rwa [hl] at this

theorem matters_ev (E : List S68) (T : List S48) (hE : E.length < 1000000) (hT : T.length < 1099511627776) : Ev (fun k => needs_Matters.f k E T) (pick E.length (mattersB E T)) := by
  obtain ⟨C, hC⟩ : ∃ C, C = pick E.length (calledB E T) := ⟨_, rfl⟩
  have hCl : C.length ≤ E.length := by rw [hC]; exact pick_length _ _
  have h : ∀ m j, j + m = C.length → Ev (fun k => needs_Matters.l0 k (netL E T) (pick E.length fun x => calledB E T x || (C.take j).any fun c => reachB (netL E T) c.toNat x) C (C.length : Int) (j : Int)) (pick E.length (mattersB E T)) := by
    intro m
    induction m with
    | zero =>
      intro j hj
      obtain rfl : j = C.length := by omega
      have hp : (pick E.length fun x => calledB E T x || (C.take C.length).any fun c => reachB (netL E T) c.toNat x) = pick E.length (mattersB E T) := pick_congr (fun i hi => by
        unfold mattersB
        rw [hC, pick_any E.length E.length (calledB E T) (fun c => reachB (netL E T) c i) (Nat.le_refl _)])
      rw [hp]
      exact Ev.done (fun k => by rw [needs_Matters.l0, if_neg (by omega)])
    | succ m ih =>
      intro j hj
      have hjC : j < C.length := by omega
      obtain ⟨c, hc, _, hcc⟩ := pick_get (n := E.length) (p := calledB E T) (j := j) (by rw [← hC]; exact hjC)
      have hget : C[j]? = some (c : Int) := by
        subst hC
        rw [List.getElem?_eq_getElem hjC, hcc]
      have hrd : rd C (j : Int) = (c : Int) := by show C.getD _ _ = _; rw [Int.toNat_natCast, List.getD_eq_getElem?_getD, hget]; rfl
      have hih := ih (j + 1) (by omega)
      have hany : ∀ x, (C.take (j + 1)).any (fun c => reachB (netL E T) c.toNat x) = ((C.take j).any (fun c => reachB (netL E T) c.toNat x) || reachB (netL E T) c x) := fun x => by
        rw [List.take_add_one, hget, List.any_append]
        simp
      rw [show (fun x => calledB E T x || (C.take (j + 1)).any fun c => reachB (netL E T) c.toNat x) = (fun x => (calledB E T x || (C.take j).any fun c => reachB (netL E T) c.toNat x) || reachB (netL E T) c x) from funext (fun x => by rw [hany x, Bool.or_assoc])] at hih
      apply Ev.stp
      · intro k; rw [needs_Matters.l0, if_pos (by omega), if_pos (by omega), if_pos (by omega), hrd]
      refine Ev.bind (net_reach_ev E T hE c hc) ?_
      refine hih.same (fun k => ?_)
      have h1 := pick_length E.length (fun x => calledB E T x || (C.take j).any fun c => reachB (netL E T) c.toNat x)
      have h2 := pick_length E.length (reachB (netL E T) c)
      unfold needs_joined_int.f
      rw [if_pos (by omega), joined_pick, Option.bind_some, w64 j (by omega)]
  have h0 := h C.length 0 (by omega)
  rw [show (fun x => calledB E T x || (C.take 0).any fun c => reachB (netL E T) c.toNat x) = calledB E T from funext (fun x => by simp), ← hC] at h0
  refine h0.same (fun k => ?_)
  unfold needs_Matters.f
  rw [needs_Net.tells E T (by omega) hT, Option.bind_some, needs_Called.tells E T (by omega) hT, Option.bind_some, ← hC]
  rfl

theorem rmatters_ev (E : List S68) (T : List S48) (hE : E.length < 1000000) (hT : T.length < 1099511627776) : Ev (fun k => replevinref07_Matters.f k E (T.map conv)) (pick E.length (mattersB E T)) := by
  obtain ⟨C, hC⟩ : ∃ C, C = pick E.length (calledB E T) := ⟨_, rfl⟩
  have hCl : C.length ≤ E.length := by rw [hC]; exact pick_length _ _
  obtain ⟨t, ht⟩ : ∃ t, t = reachB (netL E T) := ⟨_, rfl⟩
  have hmatt : ∀ a, a < E.length → mattersB E T a = (C.take C.length).any (fun c => decide (c = (a : Int)) || t c.toNat a) := fun a ha => by
    have h1 := pick_any E.length E.length (calledB E T) (fun c => decide (c = a) || t c a) (Nat.le_refl _)
    rw [← hC] at h1
    have h2 : (C.take C.length).any (fun c => decide (c = (a : Int)) || t c.toNat a) = (C.take C.length).any (fun c => decide (c.toNat = a) || t c.toNat a) := by
      rw [List.take_length]
      refine bool_ext ?_
      rw [List.any_eq_true, List.any_eq_true]
      constructor
      · rintro ⟨x, hx, h⟩
        refine ⟨x, hx, ?_⟩
        rw [Bool.or_eq_true, decide_eq_true_eq] at h ⊢
        rcases h with h | h
        · exact .inl (by omega)
        · exact .inr h
      · rintro ⟨x, hx, h⟩
        refine ⟨x, hx, ?_⟩
        obtain ⟨i, _, _, rfl⟩ := mem_pick.1 (by rw [← hC]; exact hx)
        rw [Bool.or_eq_true, decide_eq_true_eq] at h ⊢
        rcases h with h | h
        · exact .inl (by omega)
        · exact .inr h
    rw [h2, h1]
    refine bool_ext ?_
    unfold mattersB
    rw [← ht, Bool.or_eq_true, List.any_eq_true, List.any_eq_true]
    constructor
    · rintro (h | ⟨c, hc, h⟩)
      · exact ⟨a, List.mem_range.2 ha, by rw [h]; simp⟩
      · rw [Bool.and_eq_true] at h
        exact ⟨c, hc, by rw [h.1, h.2]; simp⟩
    · rintro ⟨c, hc, h⟩
      rw [Bool.and_eq_true, Bool.or_eq_true, decide_eq_true_eq] at h
      rcases h with ⟨g1, g2 | g2⟩
      · exact .inl (g2 ▸ g1)
      · exact .inr ⟨c, hc, by rw [g1, g2]; rfl⟩
  have h1 : ∀ (a : Nat), a < E.length → Ev (fun k => replevinref07_Matters.l0 k (mat E.length t) C (pick (a + 1) (mattersB E T)) (((a + 1 : Nat) : Int)) E (T.map conv)) (pick E.length (mattersB E T)) →
      ∀ m i, i + m = C.length → Ev (fun k => replevinref07_Matters.l1 k (mat E.length t) C (pick a (mattersB E T)) (a : Int) ((C.take i).any fun c => decide (c = (a : Int)) || t c.toNat a) (i : Int) E (T.map conv)) (pick E.length (mattersB E T)) := by
    intro a ha hnext m
    have hl := pick_length a (mattersB E T)
    rw [pick_succ, hmatt a ha] at hnext
    induction m with
    | zero =>
      intro i hi
      obtain rfl : i = C.length := by omega
      cases hb : (C.take C.length).any (fun c => decide (c = (a : Int)) || t c.toNat a) with
      | true =>
        rw [hb, if_pos rfl] at hnext
        exact Ev.step hnext (fun k => by rw [replevinref07_Matters.l1, if_neg (by omega), if_pos rfl, if_pos (by omega), w64 a (by omega)])
      | false =>
        rw [hb, if_neg (by simp)] at hnext
        exact Ev.step hnext (fun k => by rw [replevinref07_Matters.l1, if_neg (by omega), if_neg (by simp), w64 a (by omega)])
    | succ m ih =>
      intro i hi
      have hih := ih (i + 1) (by omega)
      have hiC : i < C.length := by omega
      obtain ⟨c, hc, _, hcc⟩ := pick_get (n := E.length) (p := calledB E T) (j := i) (by rw [← hC]; exact hiC)
      have hget : C[i]? = some (c : Int) := by
        subst hC
        rw [List.getElem?_eq_getElem hiC, hcc]
      have hrd : rd C (i : Int) = (c : Int) := by show C.getD _ _ = _; rw [Int.toNat_natCast, List.getD_eq_getElem?_getD, hget]; rfl
      have hany : (C.take (i + 1)).any (fun c => decide (c = (a : Int)) || t c.toNat a) = ((C.take i).any (fun c => decide (c = (a : Int)) || t c.toNat a) || (decide ((c : Int) = (a : Int)) || t c a)) := by
        rw [List.take_add_one, hget, List.any_append]
        simp
      rw [hany] at hih
      have hrow : rd_L10 (mat E.length t) (c : Int) = line E.length (t c) := by
        show (mat E.length t).getD _ _ = _
        rw [Int.toNat_natCast, mat_row _ hc]
      have hat : rdOf false (line E.length (t c)) (a : Int) = t c a := by
        show (line _ _).getD _ _ = _
        rw [Int.toNat_natCast, line_at _ ha]
      cases hb : (C.take i).any (fun c => decide (c = (a : Int)) || t c.toNat a) with
      | true =>
        rw [hb, Bool.true_or] at hih
        exact Ev.step hih (fun k => by rw [replevinref07_Matters.l1, if_pos (by omega), if_pos rfl, w64 i (by omega)])
      | false =>
        rw [hb, Bool.false_or] at hih
        by_cases e : (c : Int) = (a : Int)
        · rw [decide_eq_true e, Bool.true_or] at hih
          exact Ev.step hih (fun k => by rw [replevinref07_Matters.l1, if_pos (by omega), if_neg (by simp), if_pos (by omega), hrd, if_pos e, w64 i (by omega)])
        · rw [decide_eq_false e, Bool.false_or] at hih
          exact Ev.step hih (fun k => by rw [replevinref07_Matters.l1, if_pos (by omega), if_neg (by simp), if_pos (by omega), hrd, if_neg e, if_pos (by omega), if_pos (by rw [mat_length]; omega), if_pos (by omega), hrow, if_pos (by simp; omega), hat, w64 i (by omega)])
  have h0 : ∀ m a, a + m = E.length → Ev (fun k => replevinref07_Matters.l0 k (mat E.length t) C (pick a (mattersB E T)) (a : Int) E (T.map conv)) (pick E.length (mattersB E T)) := by
    intro m
    induction m with
    | zero =>
      intro a ha
      obtain rfl : a = E.length := by omega
      exact Ev.done (fun k => by rw [replevinref07_Matters.l0, if_neg (by omega)])
    | succ m ih =>
      intro a ha
      have h2 := h1 a (by omega) (ih (a + 1) (by omega)) C.length 0 (by omega)
      rw [show (C.take 0).any (fun c => decide (c = (a : Int)) || t c.toNat a) = false by simp] at h2
      refine Ev.step h2 (fun k => ?_)
      rw [replevinref07_Matters.l0, if_pos (by omega)]
      rfl
  have htab := table_ev (netL E T) (by rw [netL_length]; omega) (fun i hi => by have := netL_row E T i hi; omega)
  rw [netL_length] at htab
  unfold replevinref07_Matters.f
  refine Ev.bind (rnet_ev E T (by omega) (by omega)) (Ev.bind htab (Ev.bind (rcalled_ev E T (by omega) (by omega)) ?_))
  rw [← ht, ← hC]
  exact h0 E.length 0 (by omega)

theorem same_ev (a : List Int) (ha : a.length < 4398046511104) : Ev (fun k => replevinref06_Same.f k a a) true := by
  have h : ∀ m i, i + m = a.length → Ev (fun k => replevinref06_Same.l0 k a a (i : Int)) true := by
    intro m
    induction m with
    | zero =>
      intro i hi
      exact Ev.done (fun k => by rw [replevinref06_Same.l0, if_neg (by omega)])
    | succ m ih =>
      intro i hi
      exact Ev.step (ih (i + 1) (by omega)) (fun k => by rw [replevinref06_Same.l0, if_pos (by omega), if_pos (by omega), if_pos (by omega), if_pos rfl, w64 i (by omega)])
  exact (h a.length 0 (by omega)).same (fun k => by unfold replevinref06_Same.f; rw [if_pos rfl]; rfl)
theorem all_ev (a : List (List Int)) (ha : a.length < 4398046511104) (hr : ∀ i, i < a.length → (a.getD i []).length < 4398046511104) : Ev (fun k => replevinref06_All.f k a a) true := by
  have h : ∀ m i, i + m = a.length → Ev (fun k => replevinref06_All.l0 k a a (i : Int)) true := by
    intro m
    induction m with
    | zero =>
      intro i hi
      exact Ev.done (fun k => by rw [replevinref06_All.l0, if_neg (by omega)])
    | succ m ih =>
      intro i hi
      have h8 : rd_L8 a (i : Int) = a.getD i [] := by show a.getD _ _ = _; rw [Int.toNat_natCast]
      apply Ev.stp
      · intro k; rw [replevinref06_All.l0, if_pos (by omega), if_pos (by omega), if_pos (by omega), h8]
      refine Ev.bind (same_ev _ (hr i (by omega))) ?_
      exact (ih (i + 1) (by omega)).same (fun k => by rw [if_pos rfl, w64 i (by omega)])
  exact (h a.length 0 (by omega)).same (fun k => by unfold replevinref06_All.f; rw [if_pos rfl]; rfl)
end Go.Proofs.Ytofgaeiihclokaa.P
