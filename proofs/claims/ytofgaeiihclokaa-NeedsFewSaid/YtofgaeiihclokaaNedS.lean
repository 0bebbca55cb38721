/- The reference's table of a net, what matters, and like lists. No program in sight. No conditions beyond those typed. -/
import Derived.Test.YtofgaeiihclokaaNedR
namespace Go.Proofs.Ytofgaeiihclokaa.P
open Go.RowKit Go.Shelf Go.Lib Go.Sort Go.Maps Go.Proofs.YtofgaeiihclokaaW.PrintWords Go.Proofs.YtofgaeiihclokaaW.PrintLast Go.Proofs.YtofgaeiihclokaaW.PrintMore
set_option linter.unusedVariables false
set_option linter.unusedSimpArgs false

abbrev line (n : Nat) (r : Nat → Bool) : List Bool := (List.range n).map r
def mat (n : Nat) (t : Nat → Nat → Bool) : List (List Bool) := (List.range n).map fun i => line n (t i)
theorem mat_length (n : Nat) (t : Nat → Nat → Bool) : (mat n t).length = n := by simp [mat]
theorem rdB (l : List (List Bool)) (i : Nat) : l.getD i [] = (l[i]?).getD [] := by rw [List.getD_eq_getElem?_getD]
theorem mat_row {n i : Nat} (t : Nat → Nat → Bool) (hi : i < n) : (mat n t).getD i [] = line n (t i) := by
  rw [rdB, mat, List.getElem?_map, List.getElem?_range hi]
  rfl
theorem line_at {n j : Nat} (r : Nat → Bool) (hj : j < n) : (line n r).getD j false = r j := by
  rw [List.getD_eq_getElem?_getD, List.getElem?_map, List.getElem?_range hj]
  rfl
theorem line_congr {n : Nat} {r q : Nat → Bool} (h : ∀ j, j < n → r j = q j) : line n r = line n q := List.map_congr_left (fun j hj => h j (List.mem_range.1 hj))
theorem mat_congr {n : Nat} {t u : Nat → Nat → Bool} (h : ∀ i j, i < n → j < n → t i j = u i j) : mat n t = mat n u := List.map_congr_left (fun i hi => line_congr (fun j hj => h i j (List.mem_range.1 hi) hj))
theorem map_set {α : Type} (n i : Nat) (f : Nat → α) (v : α) : ((List.range n).map f).set i v = (List.range n).map (fun a => if a = i then v else f a) := by
  apply List.ext_getElem?
  intro j
  rw [List.getElem?_set, List.getElem?_map, List.getElem?_map]
  by_cases hj : j < n
  · rw [List.getElem?_range hj]
    by_cases e : i = j
    · subst e
      simp [hj]
    · rw [if_neg e]
      simp [show ¬ j = i from fun e2 => e e2.symm]
  · rw [List.getElem?_eq_none (by simp; omega)]
    by_cases e : i = j
    · subst e
      simp [hj]
    · rw [if_neg e]
      rfl

theorem get_some {l : List Int} {c : Nat} (h : c < l.length) : l[c]? = some (l.getD c 0) := by
  rw [List.getD_eq_getElem?_getD, List.getElem?_eq_getElem h]
  rfl
/-- A point's row, of its first c ways. -/
def part (N : List (List Int)) (a c j : Nat) : Bool := ((N.getD a []).take c).contains (j : Int)
theorem part_full {N : List (List Int)} {a j : Nat} (hj : j < N.length) : part N a (N.getD a []).length j = edgeB N a j := by
  unfold part edgeB waysL
  rw [List.take_length]
  refine bool_ext ?_
  rw [List.contains_iff_mem, List.contains_iff_mem, List.mem_filter]
  simp only [Bool.and_eq_true, decide_eq_true_eq]
  exact ⟨fun h => ⟨h, by omega, by omega⟩, fun h => h.1⟩

/-- The table, within its loops. -/
def tcur (N : List (List Int)) (k i j : Nat) (a b : Nat) : Bool := if a < i ∨ (a = i ∧ b < j) then tb N (k + 1) a b else tb N k a b

theorem table_two (N : List (List Int)) (hn : N.length < 4398046511104) : Ev (fun d => replevinref06_Table.l2 d N (mat N.length (tb N 0)) 0) (mat N.length (reachB N)) := by
  have h4 : ∀ k i, k < N.length → i < N.length → Ev (fun d => replevinref06_Table.l3 d N (mat N.length (tcur N k (i + 1) 0)) (k : Int) ((i + 1 : Nat) : Int)) (mat N.length (reachB N)) →
      ∀ m j, j + m = N.length → Ev (fun d => replevinref06_Table.l4 d N (mat N.length (tcur N k i j)) (k : Int) (i : Int) (j : Int)) (mat N.length (reachB N)) := by
    intro k i hk hi hnext m
    induction m with
    | zero =>
      intro j hj
      obtain rfl : j = N.length := by omega
      rw [show mat N.length (tcur N k i N.length) = mat N.length (tcur N k (i + 1) 0) from mat_congr (fun a b ha hb => by
        unfold tcur
        by_cases h1 : a < i + 1
        · rw [if_pos (by omega), if_pos (by omega)]
        · rw [if_neg (by omega), if_neg (by omega)])]
      exact Ev.step hnext (fun d => by rw [replevinref06_Table.l4, if_neg (by omega), w64 i (by omega)])
    | succ m ih =>
      intro j hj
      have hjn : j < N.length := by omega
      have hrow : ∀ a, a < N.length → rd_L10 (mat N.length (tcur N k i j)) (a : Int) = line N.length (tcur N k i j a) := fun a ha => by
        show (mat N.length (tcur N k i j)).getD _ _ = _
        rw [Int.toNat_natCast, mat_row _ ha]
      have hat : ∀ a b, a < N.length → b < N.length → rdOf false (rd_L10 (mat N.length (tcur N k i j)) (a : Int)) (b : Int) = tcur N k i j a b := fun a b ha hb => by
        rw [hrow a ha]
        show (line _ _).getD _ _ = _
        rw [Int.toNat_natCast, line_at _ hb]
      have hlen : ∀ a, a < N.length → ((rd_L10 (mat N.length (tcur N k i j)) (a : Int)).length : Int) = (N.length : Int) := fun a ha => by rw [hrow a ha]; simp
      have hik : tcur N k i j i k = tb N k i k := by
        unfold tcur
        split
        · exact tb_left k i
        · rfl
      have hij : tcur N k i j i j = tb N k i j := by
        unfold tcur
        rw [if_neg (by omega)]
      have hkj : tcur N k i j k j = tb N k k j := by
        unfold tcur
        split
        · exact tb_right k j
        · rfl
      have hset : ∀ v, v = tb N (k + 1) i j → (mat N.length (tcur N k i j)).set i ((rd_L10 (mat N.length (tcur N k i j)) (i : Int)).set j v) = mat N.length (tcur N k i (j + 1)) := fun v hv => by
        rw [hrow i hi, map_set, mat, map_set]
        refine List.map_congr_left (fun a ha => ?_)
        by_cases e : a = i
        · subst e
          rw [if_pos rfl]
          refine line_congr (fun b hb => ?_)
          by_cases e2 : b = j
          · subst e2
            rw [if_pos rfl, hv]
            unfold tcur
            rw [if_pos (by omega)]
          · rw [if_neg e2]
            unfold tcur
            by_cases h1 : b < j
            · rw [if_pos (by omega), if_pos (by omega)]
            · rw [if_neg (by omega), if_neg (by omega)]
        · rw [if_neg e]
          refine line_congr (fun b hb => ?_)
          unfold tcur
          by_cases h1 : a < i
          · rw [if_pos (by omega), if_pos (by omega)]
          · rw [if_neg (by omega), if_neg (by omega)]
      have hml := mat_length N.length (tcur N k i j)
      cases e1 : tb N k i k with
      | false =>
        rw [show mat N.length (tcur N k i j) = mat N.length (tcur N k (i + 1) 0) from mat_congr (fun a b ha hb => by
          unfold tcur
          by_cases h1 : a < i + 1
          · rw [if_pos (show a < i + 1 ∨ _ from .inl h1)]
            split
            · rfl
            · have : a = i := by omega
              subst this
              rw [tb, e1]
              simp
          · rw [if_neg (by omega), if_neg (by omega)])] at hat hlen hml ⊢
        refine Ev.step hnext (fun d => ?_)
        rw [replevinref06_Table.l4, if_pos (by omega), if_pos (by omega), if_pos (by omega), if_pos (by omega), if_pos (by rw [hlen i hi]; omega), hat i k hi hk, hik, e1, if_neg (by simp), w64 i (by omega)]
      | true =>
        have hih := ih (j + 1) (by omega)
        have htb : tb N (k + 1) i j = (tb N k i j || tb N k k j) := by rw [tb, e1, Bool.true_and]
        cases e2 : tb N k i j with
        | true =>
          refine Ev.step hih (fun d => ?_)
          rw [replevinref06_Table.l4, if_pos (by omega), if_pos (by omega), if_pos (by omega), if_pos (by omega), if_pos (by rw [hlen i hi]; omega), hat i k hi hk, hik, e1, if_pos rfl, if_pos (by omega), if_pos (by rw [hlen i hi]; omega), hat i j hi hjn, hij, e2, if_pos rfl, Int.toNat_natCast, Int.toNat_natCast, hset true (by rw [htb, e2]; rfl), w64 j (by omega)]
        | false =>
          refine Ev.step hih (fun d => ?_)
          rw [replevinref06_Table.l4, if_pos (by omega), if_pos (by omega), if_pos (by omega), if_pos (by omega), if_pos (by rw [hlen i hi]; omega), hat i k hi hk, hik, e1, if_pos rfl, if_pos (by omega), if_pos (by rw [hlen i hi]; omega), hat i j hi hjn, hij, e2, if_neg (by simp), if_pos (by omega), if_pos (by rw [hlen k hk]; omega), hat k j hk hjn, hkj, Int.toNat_natCast, Int.toNat_natCast, hset (tb N k k j) (by rw [htb, e2]; rfl), w64 j (by omega)]
  have h3 : ∀ k, k < N.length → Ev (fun d => replevinref06_Table.l2 d N (mat N.length (tb N (k + 1))) ((k + 1 : Nat) : Int)) (mat N.length (reachB N)) →
      ∀ m i, i + m = N.length → Ev (fun d => replevinref06_Table.l3 d N (mat N.length (tcur N k i 0)) (k : Int) (i : Int)) (mat N.length (reachB N)) := by
    intro k hk hnext m
    induction m with
    | zero =>
      intro i hi
      obtain rfl : i = N.length := by omega
      rw [show mat N.length (tcur N k N.length 0) = mat N.length (tb N (k + 1)) from mat_congr (fun a b ha hb => by unfold tcur; rw [if_pos (by omega)])]
      exact Ev.step hnext (fun d => by rw [replevinref06_Table.l3, if_neg (by omega), w64 k (by omega)])
    | succ m ih =>
      intro i hi
      exact Ev.step (h4 k i hk (by omega) (ih (i + 1) (by omega)) N.length 0 (by omega)) (fun d => by rw [replevinref06_Table.l3, if_pos (by omega)]; rfl)
  have h2 : ∀ m k, k + m = N.length → Ev (fun d => replevinref06_Table.l2 d N (mat N.length (tb N k)) (k : Int)) (mat N.length (reachB N)) := by
    intro m
    induction m with
    | zero =>
      intro k hk
      obtain rfl : k = N.length := by omega
      exact Ev.done (fun d => by rw [replevinref06_Table.l2, if_neg (by omega)]; rfl)
    | succ m ih =>
      intro k hk
      have := h3 k (by omega) (ih (k + 1) (by omega)) N.length 0 (by omega)
      rw [show mat N.length (tcur N k 0 0) = mat N.length (tb N k) from mat_congr (fun a b ha hb => by unfold tcur; rw [if_neg (by omega)])] at this
      exact Ev.step this (fun d => by rw [replevinref06_Table.l2, if_pos (by omega)]; rfl)
  exact h2 N.length 0 (by omega)

theorem table_ev (N : List (List Int)) (hn : N.length < 4398046511104) (hl : ∀ i, i < N.length → (N.getD i []).length < 4398046511104) : Ev (fun d => replevinref06_Table.f d N) (mat N.length (reachB N)) := by
  have hfull : ∀ a, line N.length (part N a (N.getD a []).length) = line N.length (tb N 0 a) := fun a => line_congr (fun j hj => part_full hj)
  have h1 : ∀ a, a < N.length → Ev (fun d => replevinref06_Table.l0 d N ((List.range (a + 1)).map fun i => line N.length (tb N 0 i)) ((a + 1 : Nat) : Int)) (mat N.length (reachB N)) →
      ∀ m c, c + m = (N.getD a []).length → Ev (fun d => replevinref06_Table.l1 d N (((List.range a).map fun i => line N.length (tb N 0 i)) ++ [line N.length (part N a c)]) (a : Int) (c : Int)) (mat N.length (reachB N)) := by
    intro a ha hnext m
    have hla := hl a ha
    have hr8 : rd_L8 N (a : Int) = N.getD a [] := by show N.getD _ _ = _; rw [Int.toNat_natCast]
    induction m with
    | zero =>
      intro c hc
      obtain rfl : c = (N.getD a []).length := by omega
      rw [hfull a, ← map_range_succ a (fun i => line N.length (tb N 0 i))]
      exact Ev.step hnext (fun d => by rw [replevinref06_Table.l1, if_pos (by omega), if_pos (by omega), hr8, if_neg (by omega), w64 a (by omega)])
    | succ m ih =>
      intro c hc
      have hih := ih (c + 1) (by omega)
      have hcl : c < (N.getD a []).length := by omega
      obtain ⟨v, hv⟩ : ∃ v, v = (N.getD a []).getD c 0 := ⟨_, rfl⟩
      have hrd : rd (rd_L8 N (a : Int)) (c : Int) = v := by rw [hr8, hv]; show (N.getD a []).getD _ _ = _; rw [Int.toNat_natCast]
      have hget : (N.getD a [])[c]? = some v := by
        rw [hv]
        exact get_some hcl
      have hstep : ∀ j : Nat, part N a (c + 1) j = (part N a c j || decide ((j : Int) = v)) := fun j => by
        unfold part
        rw [List.take_add_one, hget]
        refine bool_ext ?_
        rw [Bool.or_eq_true, decide_eq_true_eq, List.contains_iff_mem, List.contains_iff_mem, List.mem_append]
        simp
      have hL : (((List.range a).map fun i => line N.length (tb N 0 i)) ++ [line N.length (part N a c)]).length = a + 1 := by simp
      have hrow : rd_L10 (((List.range a).map fun i => line N.length (tb N 0 i)) ++ [line N.length (part N a c)]) (a : Int) = line N.length (part N a c) := by
        show List.getD _ _ _ = _
        rw [Int.toNat_natCast, List.getD_eq_getElem?_getD, List.getElem?_append_right (by simp)]
        simp
      by_cases hin : 0 ≤ v ∧ v < (N.length : Int)
      · obtain ⟨j, rfl⟩ := Int.eq_ofNat_of_zero_le hin.1
        have hset : (((List.range a).map fun i => line N.length (tb N 0 i)) ++ [line N.length (part N a c)]).set a ((line N.length (part N a c)).set j true) = ((List.range a).map fun i => line N.length (tb N 0 i)) ++ [line N.length (part N a (c + 1))] := by
          rw [List.set_append_right _ _ (by simp)]
          simp only [List.length_map, List.length_range, Nat.sub_self, List.set_cons_zero]
          rw [map_set, line_congr (fun b hb => ?_)]
          rw [hstep b]
          by_cases e : b = j
          · rw [if_pos e, decide_eq_true (show (b : Int) = (j : Int) by omega)]
            simp
          · rw [if_neg e, decide_eq_false (show ¬ (b : Int) = (j : Int) by omega)]
            simp
        exact Ev.step hih (fun d => by
          rw [replevinref06_Table.l1, if_pos (by omega), if_pos (by omega), hrd, hrow, hL, hr8, if_pos (by omega), if_pos (by omega), if_pos (by omega), if_pos (by omega), if_pos (by omega), if_pos (by omega), if_pos (by simp; omega), Int.toNat_natCast, Int.toNat_natCast, hset, w64 c (by omega)])
      · have heq : line N.length (part N a (c + 1)) = line N.length (part N a c) := line_congr (fun j hj => by
          rw [hstep j, decide_eq_false (by omega)]
          simp)
        rw [heq] at hih
        refine Ev.step hih (fun d => ?_)
        rw [replevinref06_Table.l1, if_pos (by omega), if_pos (by omega), hrd, hr8, if_pos (by omega), if_pos (by omega), w64 c (by omega)]
        by_cases e : v ≥ 0
        · rw [if_pos e, if_neg (fun h => hin ⟨e, h⟩)]
        · rw [if_neg e]
  have h0 : ∀ m a, a + m = N.length → Ev (fun d => replevinref06_Table.l0 d N ((List.range a).map fun i => line N.length (tb N 0 i)) (a : Int)) (mat N.length (reachB N)) := by
    intro m
    induction m with
    | zero =>
      intro a ha
      obtain rfl : a = N.length := by omega
      exact Ev.step (table_two N hn) (fun d => by rw [replevinref06_Table.l0, if_neg (by omega)]; rfl)
    | succ m ih =>
      intro a ha
      have := h1 a (by omega) (ih (a + 1) (by omega)) (N.getD a []).length 0 (by omega)
      rw [show line N.length (part N a 0) = List.replicate N.length false from by
        apply List.ext_getElem
        · simp
        · intro i h1 h2
          simp [part]] at this
      exact Ev.step this (fun d => by rw [replevinref06_Table.l0, if_pos (by omega), if_pos (by omega), if_pos (by omega), if_pos (by simp; omega), Int.toNat_natCast]; rfl)
  exact h0 N.length 0 (by omega)

/-! ### what matters -/
def netL (E : List S68) (T : List S48) : List (List Int) := (List.range E.length).map fun i => pick E.length (needB T i)
def mattersB (E : List S68) (T : List S48) (i : Nat) : Bool := calledB E T i || (List.range E.length).any fun c => calledB E T c && reachB (netL E T) c i
theorem netL_length (E : List S68) (T : List S48) : (netL E T).length = E.length := by simp [netL]
theorem netL_at (E : List S68) (T : List S48) {i : Nat} (hi : i < E.length) : (netL E T).getD i [] = pick E.length (needB T i) := by
  rw [List.getD_eq_getElem?_getD, netL, List.getElem?_map, List.getElem?_range hi]
  rfl
theorem pick_any (n m : Nat) (p : Nat → Bool) (q : Nat → Bool) (hm : m ≤ n) : ((pick n p).take (pick m p).length).any (fun c => q c.toNat) = (List.range m).any fun c => p c && q c := by
  have hpre : (pick n p).take (pick m p).length = pick m p := by
    obtain ⟨d, rfl⟩ : ∃ d, n = m + d := ⟨n - m, by omega⟩
    have : ∃ s, pick (m + d) p = pick m p ++ s := by
      clear hm
      induction d with
      | zero => exact ⟨[], by simp⟩
      | succ d ih =>
        obtain ⟨s, hs⟩ := ih
        rw [show m + (d + 1) = (m + d) + 1 from rfl, pick_succ, hs]
        split
        · exact ⟨s ++ [((m + d : Nat) : Int)], by rw [List.append_assoc]⟩
        · exact ⟨s, rfl⟩
    obtain ⟨s, hs⟩ := this
    rw [hs, List.take_left]
  rw [hpre]
  refine bool_ext ?_
  rw [List.any_eq_true, List.any_eq_true]
  constructor
  · rintro ⟨x, hx, hq⟩
    obtain ⟨i, h1, h2, rfl⟩ := mem_pick.1 hx
    exact ⟨i, List.mem_range.2 h1, by rw [h2]; simpa using hq⟩
  · rintro ⟨i, hi, h⟩
    rw [Bool.and_eq_true] at h
    exact ⟨(i : Int), mem_pick.2 ⟨i, List.mem_range.1 hi, h.1, rfl⟩, by simpa using h.2⟩
theorem pick_get {n : Nat} {p : Nat → Bool} {j : Nat} (hj : j < (pick n p).length) : ∃ c : Nat, c < n ∧ p c = true ∧ (pick n p)[j] = (c : Int) := by
  obtain ⟨c, h1, h2, h3⟩ := mem_pick.1 (List.getElem_mem hj)
  exact ⟨c, h1, h2, h3⟩
end Go.Proofs.Ytofgaeiihclokaa.P
