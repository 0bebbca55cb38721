/- Plain facts on what the layer needs and its reference tell: places, joined lists, ties. No program in sight. No conditions beyond those typed. -/
import Derived.Test.YtofgaeiihclokaaNedN
import Derived.Test.YtofgaeiihclokaaP8
import Derived.Test.YtofgaeiihclokaaP9
import Derived.Test.YtofgaeiihclokaaP10
import Derived.Test.YtofgaeiihclokaaP11
import Derived.Test.YtofgaeiihclokaaP13
import Derived.Test.YtofgaeiihclokaaP14
namespace Go.Proofs.Ytofgaeiihclokaa.P
open Go.RowKit Go.Shelf Go.Lib Go.Sort Go.Maps Go.Proofs.YtofgaeiihclokaaW.PrintWords Go.Proofs.YtofgaeiihclokaaW.PrintLast Go.Proofs.YtofgaeiihclokaaW.PrintMore
set_option linter.unusedVariables false
set_option linter.unusedSimpArgs false

/-- From some depth on a function tells r. -/
def Ev {α : Type} (g : Nat → Option α) (r : α) : Prop := ∃ K, ∀ k, K ≤ k → g k = some r
theorem Ev.at {α : Type} {g : Nat → Option α} {r : α} (h : Ev g r) : ∃ k, g k = some r := by
  obtain ⟨K, hK⟩ := h
  exact ⟨K, hK K (Nat.le_refl _)⟩
theorem Ev.done {α : Type} {g : Nat → Option α} {r : α} (h : ∀ k, g (k + 1) = some r) : Ev g r := ⟨1, fun k hk => by
  obtain ⟨j, rfl⟩ : ∃ j, k = j + 1 := ⟨k - 1, by omega⟩
  exact h j⟩
theorem Ev.step {α : Type} {g h : Nat → Option α} {r : α} (he : Ev h r) (e : ∀ k, g (k + 1) = h k) : Ev g r := by
  obtain ⟨K, hK⟩ := he
  refine ⟨K + 1, fun k hk => ?_⟩
  obtain ⟨j, rfl⟩ : ∃ j, k = j + 1 := ⟨k - 1, by omega⟩
  rw [e j]
  exact hK j (by omega)
theorem Ev.same {α : Type} {g h : Nat → Option α} {r : α} (he : Ev h r) (e : ∀ k, g k = h k) : Ev g r := by
  obtain ⟨K, hK⟩ := he
  exact ⟨K, fun k hk => by rw [e k]; exact hK k hk⟩
theorem Ev.bind {α β : Type} {g : Nat → Option α} {x : α} {h : Nat → α → Option β} {r : β} (hg : Ev g x) (hh : Ev (fun k => h k x) r) : Ev (fun k => (g k).bind (h k)) r := by
  obtain ⟨K, hK⟩ := hg
  obtain ⟨L, hL⟩ := hh
  refine ⟨max K L, fun k hk => ?_⟩
  show (g k).bind (h k) = some r
  rw [hK k (by omega), Option.bind_some]
  exact hL k (by omega)
theorem Ev.stp {α : Type} {g h : Nat → Option α} {r : α} (e : ∀ k, g (k + 1) = h k) (he : Ev h r) : Ev g r := he.step e
theorem Ev.sam {α : Type} {g h : Nat → Option α} {r : α} (e : ∀ k, g k = h k) (he : Ev h r) : Ev g r := he.same e
theorem Ev.const {α : Type} (r : α) : Ev (fun _ => some r) r := ⟨0, fun _ _ => rfl⟩

theorem pick_congr {n : Nat} {p q : Nat → Bool} (h : ∀ i, i < n → p i = q i) : pick n p = pick n q := by
  unfold pick
  congr 1
  exact List.filter_congr (fun i hi => h i (List.mem_range.1 hi))

/-- The strict order of what Compact leaves of a rising list, and its elements. -/
theorem compact_sorted {l : List Int} (h : l.Pairwise (· ≤ ·)) : (Lib.compact l).Pairwise (· < ·) ∧ ∀ x, x ∈ Lib.compact l ↔ x ∈ l := by
  have hget : ∀ j, j < l.length → l.toArray[j]! = l[j]! := fun j hj => by simp
  have hle : ∀ i j, i < j → j < l.length → l[i]! ≤ l[j]! := fun i j hij hj => by
    rw [getElem!_pos l i (by omega), getElem!_pos l j hj]
    exact List.pairwise_iff_getElem.1 h i j (by omega) hj hij
  constructor
  · unfold Lib.compact Lib.compactUpTo
    rw [List.pairwise_map]
    refine List.Pairwise.imp_of_mem (R := (· < ·)) (fun {i j} hi hj hij => ?_) (List.Pairwise.filter _ List.pairwise_lt_range)
    have hj1 := (List.mem_filter.1 hj).1
    have hj2 := (List.mem_filter.1 hj).2
    rw [List.mem_range] at hj1
    have hk : l.toArray[j]! ≠ l.toArray[j - 1]! := by
      simp only [Lib.keeps, decide_eq_true_eq] at hj2
      rcases hj2 with e | e
      · omega
      · exact e
    rw [hget j hj1, hget (j - 1) (by omega)] at hk
    rw [hget i (by omega), hget j hj1]
    have h1 : l[j - 1]! ≤ l[j]! := hle (j - 1) j (by omega) hj1
    have h2 : l[i]! ≤ l[j - 1]! := by
      by_cases e : i = j - 1
      · rw [e]; exact Int.le_refl _
      · exact hle i (j - 1) (by omega) (by omega)
    omega
  · intro x
    unfold Lib.compact Lib.compactUpTo
    simp only [List.mem_map, List.mem_filter, List.mem_range]
    constructor
    · rintro ⟨j, ⟨hj, _⟩, rfl⟩
      rw [hget j hj, getElem!_pos l j hj]
      exact List.getElem_mem hj
    · intro hx
      obtain ⟨j, hj, rfl⟩ := List.mem_iff_getElem.1 hx
      have hall : ∀ j, j < l.length → ∃ i, i < l.length ∧ Lib.keeps l.toArray i = true ∧ l.toArray[i]! = l.toArray[j]! := by
        intro j
        induction j with
        | zero => exact fun h0 => ⟨0, h0, by simp [Lib.keeps], rfl⟩
        | succ j ih =>
          intro hj
          by_cases e : l.toArray[j + 1]! = l.toArray[j]!
          · obtain ⟨i, h1, h2, h3⟩ := ih (by omega)
            exact ⟨i, h1, h2, h3.trans e.symm⟩
          · exact ⟨j + 1, hj, Lib.keeps_pos e, rfl⟩
      obtain ⟨i, h1, h2, h3⟩ := hall j hj
      exact ⟨i, ⟨h1, h2⟩, by rw [h3, hget j hj, getElem!_pos l j hj]⟩

theorem joined_sorted (a b : List Int) : (Lib.compact ((a ++ b).mergeSort leI)).Pairwise (· < ·) ∧ ∀ x, x ∈ Lib.compact ((a ++ b).mergeSort leI) ↔ x ∈ a ∨ x ∈ b := by
  have tr : ∀ a b c : Int, leI a b = true → leI b c = true → leI a c = true := fun a b c h1 h2 => by simp only [leI, decide_eq_true_eq] at *; exact Int.le_trans h1 h2
  have tot : ∀ a b : Int, (leI a b || leI b a) = true := fun a b => by simp only [leI, Bool.or_eq_true, decide_eq_true_eq]; exact Int.le_total a b
  have h := (List.pairwise_mergeSort tr tot (a ++ b)).imp (S := (· ≤ ·)) (fun {x y} h => by simpa [leI] using h)
  obtain ⟨h1, h2⟩ := compact_sorted h
  exact ⟨h1, fun x => by rw [h2, (List.mergeSort_perm (a ++ b) leI).mem_iff, List.mem_append]⟩

theorem joined_pick (n : Nat) (p q : Nat → Bool) : Lib.compact ((pick n p ++ pick n q).mergeSort leI) = pick n (fun k => p k || q k) := by
  obtain ⟨h1, h2⟩ := joined_sorted (pick n p) (pick n q)
  refine sorted_ext h1 (pick_sorted _ _) (fun x => ?_)
  rw [h2, mem_pick, mem_pick, mem_pick]
  constructor
  · rintro (⟨i, h3, h4, h5⟩ | ⟨i, h3, h4, h5⟩)
    · exact ⟨i, h3, by simp [h4], h5⟩
    · exact ⟨i, h3, by simp [h4], h5⟩
  · rintro ⟨i, h3, h4, h5⟩
    rw [Bool.or_eq_true] at h4
    rcases h4 with h4 | h4
    · exact .inl ⟨i, h3, h4, h5⟩
    · exact .inr ⟨i, h3, h4, h5⟩

/-- A tie as the reference has it. -/
def conv (t : S48) : S69 := ⟨t.f0, t.f1, t.f2, t.f3⟩
/-- Is there a tie of a kind between two events? -/
def tiedB (T : List S48) (k a b : Int) : Bool := T.any fun t => decide (t.f0 = k) && decide (t.f1 = a) && decide (t.f2 = b)
def inB (n : Nat) (a : Int) : Bool := decide (0 ≤ a) && decide (a < (n : Int))
def blocksB (n : Nat) (T : List S48) (a : Int) (i : Nat) : Bool := inB n a && (tiedB T 1 i a || tiedB T 5 i a)
def callsB (n : Nat) (T : List S48) (a : Int) (i : Nat) : Bool := inB n a && tiedB T 2 a i
def needB (T : List S48) (a i : Nat) : Bool := tiedB T 1 i a || tiedB T 5 i a || tiedB T 2 a i
def calledB (E : List S68) (T : List S48) (i : Nat) : Bool := decide (0 ≤ (E.getD i z68).f5) || (List.range E.length).any fun k => tiedB T 2 k i
def outB (E : List S68) (T : List S48) (i : Nat) : Bool := !(E.getD i z68).f3 || (List.range E.length).any fun k => tiedB T 4 k i

theorem tiedB_iff {T : List S48} {k a b : Int} : tiedB T k a b = true ↔ ∃ t ∈ T, t.f0 = k ∧ t.f1 = a ∧ t.f2 = b := by
  unfold tiedB
  rw [List.any_eq_true]
  simp only [Bool.and_eq_true, decide_eq_true_eq, and_assoc]
theorem twoB_iff {n : Nat} {t : S48} : twoB n t = true ↔ (0 ≤ t.f1 ∧ t.f1 < (n : Int)) ∧ 0 ≤ t.f2 ∧ t.f2 < (n : Int) := by
  refine ⟨two_in, fun h => ?_⟩
  unfold twoB
  simp only [Bool.and_eq_true, decide_eq_true_eq]
  omega
theorem bool_ext {a b : Bool} (h : a = true ↔ b = true) : a = b := by cases a <;> cases b <;> simp_all
theorem ties_pick {n : Nat} {T : List S48} {tell : S48 → Int × Bool} {p : Nat → Bool} (h : ∀ i, i < n → ((∃ t ∈ T, (tell t).2 = true ∧ twoB n t = true ∧ (tell t).1 = (i : Int)) ↔ p i = true)) : tiesOf n T tell = pick n p := by
  unfold tiesOf
  refine pick_congr (fun i hi => bool_ext ?_)
  rw [List.any_eq_true, ← h i hi]
  simp only [Bool.and_eq_true, decide_eq_true_eq, and_assoc]
theorem blocks_pick (n : Nat) (T : List S48) (a : Int) : tiesOf n T (tellB a) = pick n (blocksB n T a) := by
  refine ties_pick (fun i hi => ?_)
  unfold blocksB inB tellB
  simp only [Bool.and_eq_true, Bool.or_eq_true, decide_eq_true_eq, twoB_iff, tiedB_iff]
  constructor
  · rintro ⟨t, ht, ⟨h1, h2⟩, ⟨h3, h4, h5⟩, h6⟩
    refine ⟨⟨by omega, by omega⟩, ?_⟩
    rcases h2 with h2 | h2
    · exact .inl ⟨t, ht, h2, h6, h1⟩
    · exact .inr ⟨t, ht, h2, h6, h1⟩
  · rintro ⟨⟨h1, h2⟩, ⟨t, ht, h3, h4, h5⟩ | ⟨t, ht, h3, h4, h5⟩⟩
    · exact ⟨t, ht, ⟨h5, .inl h3⟩, ⟨⟨by omega, by omega⟩, by omega, by omega⟩, h4⟩
    · exact ⟨t, ht, ⟨h5, .inr h3⟩, ⟨⟨by omega, by omega⟩, by omega, by omega⟩, h4⟩
theorem calls_pick (n : Nat) (T : List S48) (a : Int) : tiesOf n T (tellC a) = pick n (callsB n T a) := by
  refine ties_pick (fun i hi => ?_)
  unfold callsB inB tellC
  simp only [Bool.and_eq_true, Bool.or_eq_true, decide_eq_true_eq, twoB_iff, tiedB_iff]
  constructor
  · rintro ⟨t, ht, ⟨h1, h2⟩, ⟨h3, h4, h5⟩, h6⟩
    exact ⟨⟨by omega, by omega⟩, t, ht, h2, h1, h6⟩
  · rintro ⟨⟨h1, h2⟩, t, ht, h3, h4, h5⟩
    exact ⟨t, ht, ⟨h4, h3⟩, ⟨⟨by omega, by omega⟩, by omega, by omega⟩, h5⟩
theorem kinds_pick (n : Nat) (T : List S48) (k : Int) : tiesOf n T (tellK k) = pick n (fun i => (List.range n).any fun j => tiedB T k j i) := by
  refine ties_pick (fun i hi => ?_)
  unfold tellK
  simp only [List.any_eq_true, Bool.and_eq_true, decide_eq_true_eq, twoB_iff, tiedB_iff, List.mem_range]
  constructor
  · rintro ⟨t, ht, h1, ⟨h3, h4, h5⟩, h6⟩
    obtain ⟨j, hj⟩ := Int.eq_ofNat_of_zero_le h3.1
    exact ⟨j, by omega, t, ht, h1, hj, h6⟩
  · rintro ⟨j, hj, t, ht, h1, h2, h3⟩
    exact ⟨t, ht, h1, ⟨⟨by omega, by omega⟩, by omega, by omega⟩, h3⟩
theorem net_pick (n : Nat) (T : List S48) (i : Nat) (hi : i < n) : Lib.compact ((tiesOf n T (tellB (i : Int)) ++ tiesOf n T (tellC (i : Int))).mergeSort leI) = pick n (needB T i) := by
  rw [blocks_pick, calls_pick, joined_pick]
  refine pick_congr (fun j hj => ?_)
  unfold blocksB callsB needB inB
  rw [decide_eq_true (show (0 : Int) ≤ (i : Int) by omega), decide_eq_true (show (i : Int) < (n : Int) by omega)]
  simp

theorem needs_Net.tells (E : List S68) (T : List S48) (hE : E.length < 1099511627776) (hT : T.length < 1099511627776) : needs_Net.f E T = some ((List.range E.length).map fun i => pick E.length (needB T i)) := by
  unfold needs_Net.f
  rw [if_pos ⟨hE, hT⟩]
  congr 1
  exact List.map_congr_left (fun i hi => net_pick _ _ _ (List.mem_range.1 hi))
theorem needs_Called.tells (E : List S68) (T : List S48) (hE : E.length < 1099511627776) (hT : T.length < 1099511627776) : needs_Called.f E T = some (pick E.length (calledB E T)) := by
  unfold needs_Called.f needs_joined_int.f
  have h1 : (eventsOf E fun x => decide (0 ≤ x.f5)).length ≤ E.length := pick_length _ _
  have h2 : (tiesOf E.length T (tellK 2)).length ≤ E.length := pick_length _ _
  rw [if_pos (by omega), if_pos (by omega), kinds_pick]
  unfold eventsOf
  rw [joined_pick]
  rfl
theorem needs_Excluded.tells (E : List S68) (T : List S48) (hE : E.length < 1099511627776) (hT : T.length < 1099511627776) : needs_Excluded.f E T = some (pick E.length (outB E T)) := by
  unfold needs_Excluded.f needs_joined_int.f
  have h1 : (eventsOf E fun x => !x.f3).length ≤ E.length := pick_length _ _
  have h2 : (tiesOf E.length T (tellK 4)).length ≤ E.length := pick_length _ _
  rw [if_pos (by omega), if_pos (by omega), kinds_pick]
  unfold eventsOf
  rw [joined_pick]
  rfl

theorem w64 (i : Nat) (h : i < 4611686018427387904) : wrap64 ((i : Int) + 1) = ((i + 1 : Nat) : Int) := by
  rw [IntWalk.wrap64_in _ (by omega)]
  omega
theorem rd69 (T : List S48) (i : Nat) (h : i < T.length) : rd_T69 (T.map conv) (i : Int) = conv T[i] := by
  show (T.map conv).getD _ _ = _
  simp [List.getD_eq_getElem?_getD, h]

/-- Own: the ties, as the reference has them. -/
theorem own_ev (E : List S68) (T : List S48) (hT : T.length < 4398046511104) : Ev (fun k => replevinlaw05_Own.f k E T) (E, T.map conv) := by
  have h : ∀ m i, i + m = T.length → Ev (fun k => replevinlaw05_Own.l0 k (T.length : Int) (i : Int) E T E ((T.take i).map conv)) (E, T.map conv) := by
    intro m
    induction m with
    | zero =>
      intro i hi
      refine Ev.done (fun k => ?_)
      rw [replevinlaw05_Own.l0, if_neg (by omega), List.take_of_length_le (by omega)]
    | succ m ih =>
      intro i hi
      refine Ev.step (ih (i + 1) (by omega)) (fun k => ?_)
      rw [replevinlaw05_Own.l0, if_pos (by omega), if_pos (by omega), if_pos (by omega), if_pos (by simp; omega), w64 i (by omega)]
      congr 1
      have hr : rd_T48 T (i : Int) = T[i]'(by omega) := by
        show T.getD _ _ = _
        simp [List.getD_eq_getElem?_getD, show i < T.length by omega]
      rw [hr, List.take_add_one, List.getElem?_eq_getElem (by omega), List.map_append]
      rfl
  exact h T.length 0 (by omega)

theorem tied_ev (E : List S68) (T : List S48) (a b c : Int) (hT : T.length < 4398046511104) : Ev (fun k => replevinref07_tied.f k E (T.map conv) a b c) (tiedB T a b c) := by
  have h : ∀ m i, i + m = T.length → Ev (fun k => replevinref07_tied.l0 k a b c (i : Int) E (T.map conv)) (tiedB (T.drop i) a b c) := by
    intro m
    induction m with
    | zero =>
      intro i hi
      refine Ev.done (fun k => ?_)
      rw [replevinref07_tied.l0, if_neg (by simp; omega), List.drop_of_length_le (by omega)]
      rfl
    | succ m ih =>
      intro i hi
      have hd : T.drop i = T[i]'(by omega) :: T.drop (i + 1) := List.drop_eq_getElem_cons (by omega)
      have hih := ih (i + 1) (by omega)
      by_cases h1 : (T[i]'(by omega)).f0 = a ∧ (T[i]'(by omega)).f1 = b ∧ (T[i]'(by omega)).f2 = c
      · refine Ev.done (fun k => ?_)
        rw [replevinref07_tied.l0, if_pos (by simp; omega), if_pos (by omega), rd69 T i (by omega), if_pos (show (conv (T[i]'(by omega))).f0 = a from h1.1), if_pos (show (conv (T[i]'(by omega))).f1 = b from h1.2.1), if_pos (show (conv (T[i]'(by omega))).f2 = c from h1.2.2)]
        exact congrArg some (tiedB_iff.2 ⟨T[i]'(by omega), by rw [hd]; exact List.mem_cons_self, h1⟩).symm
      · have hn : tiedB (T.drop i) a b c = tiedB (T.drop (i + 1)) a b c := by
          rw [hd]
          unfold tiedB
          rw [List.any_cons]
          have : (decide ((T[i]'(by omega)).f0 = a) && decide ((T[i]'(by omega)).f1 = b) && decide ((T[i]'(by omega)).f2 = c)) = false := by
            rw [← Bool.not_eq_true]
            simpa [and_assoc] using h1
          rw [this, Bool.false_or]
        rw [hn]
        refine Ev.step hih (fun k => ?_)
        rw [replevinref07_tied.l0, if_pos (by simp; omega), if_pos (by omega), rd69 T i (by omega), w64 i (by omega)]
        by_cases e1 : (conv (T[i]'(by omega))).f0 = a
        · by_cases e2 : (conv (T[i]'(by omega))).f1 = b
          · rw [if_pos e1, if_pos e2, if_neg (fun e3 : (conv (T[i]'(by omega))).f2 = c => h1 ⟨e1, e2, e3⟩)]
          · rw [if_pos e1, if_neg e2]
        · rw [if_neg e1]
  exact h T.length 0 (by omega)

theorem pick_zero (p : Nat → Bool) : pick 0 p = [] := rfl
theorem pick_false {n : Nat} {p : Nat → Bool} (h : ∀ i, i < n → p i = false) : pick n p = [] := by
  unfold pick
  rw [List.map_eq_nil_iff, List.filter_eq_nil_iff]
  intro i hi
  rw [h i (List.mem_range.1 hi)]
  simp

/-- The reference's Blocks. -/
theorem rblocks_ev (E : List S68) (T : List S48) (a : Int) (hE : E.length < 4398046511104) (hT : T.length < 4398046511104) : Ev (fun k => replevinref07_Blocks.f k E (T.map conv) a) (pick E.length (blocksB E.length T a)) := by
  by_cases hin : 0 ≤ a ∧ a < (E.length : Int)
  · have hb : ∀ i, blocksB E.length T a i = (tiedB T 1 i a || tiedB T 5 i a) := fun i => by
      unfold blocksB inB
      rw [decide_eq_true hin.1, decide_eq_true hin.2]
      simp
    have h : ∀ m i, i + m = E.length → Ev (fun k => replevinref07_Blocks.l0 k a (pick i (blocksB E.length T a)) (i : Int) E (T.map conv)) (pick E.length (blocksB E.length T a)) := by
      intro m
      induction m with
      | zero =>
        intro i hi
        obtain rfl : i = E.length := by omega
        refine Ev.step (h := fun k => replevinref07_Blocks.j1 k a (pick E.length (blocksB E.length T a)) (E.length : Int) false E (T.map conv)) (Ev.done (fun k => ?_)) (fun k => ?_)
        · rw [replevinref07_Blocks.j1, if_neg (by simp)]
        · rw [replevinref07_Blocks.l0, if_neg (by omega)]
      | succ m ih =>
        intro i hi
        have hl := pick_length i (blocksB E.length T a)
        refine Ev.step (h := fun k => replevinref07_Blocks.j1 k a (pick i (blocksB E.length T a)) (i : Int) true E (T.map conv)) ?_ (fun k => ?_)
        · refine Ev.step (h := fun k => (replevinref07_tied.f k E (T.map conv) 1 (i : Int) a).bind fun t282 => (if t282 = true then (if (pick i (blocksB E.length T a)).length < 17592186044416 then (replevinref07_Blocks.l0 k a ((pick i (blocksB E.length T a)) ++ [(i : Int)]) (wrap64 ((i : Int) + 1)) E (T.map conv)) else (none)) else ((replevinref07_tied.f k E (T.map conv) 5 (i : Int) a).bind fun t286 => (if t286 = true then (if (pick i (blocksB E.length T a)).length < 17592186044416 then (replevinref07_Blocks.l0 k a ((pick i (blocksB E.length T a)) ++ [(i : Int)]) (wrap64 ((i : Int) + 1)) E (T.map conv)) else (none)) else (replevinref07_Blocks.l0 k a (pick i (blocksB E.length T a)) (wrap64 ((i : Int) + 1)) E (T.map conv)))))) ?_ (fun k => by rw [replevinref07_Blocks.j1, if_pos rfl])
          have hs := pick_succ i (blocksB E.length T a)
          have hih := ih (i + 1) (by omega)
          refine Ev.bind (tied_ev E T 1 i a hT) ?_
          cases h1 : tiedB T 1 i a with
          | true =>
            rw [hs, hb i, h1] at hih
            exact hih.same (fun k => by rw [if_pos rfl, if_pos (by omega), w64 i (by omega)]; rfl)
          | false =>
            refine Ev.same (h := fun k => (replevinref07_tied.f k E (T.map conv) 5 (i : Int) a).bind fun t286 => (if t286 = true then (if (pick i (blocksB E.length T a)).length < 17592186044416 then (replevinref07_Blocks.l0 k a ((pick i (blocksB E.length T a)) ++ [(i : Int)]) (wrap64 ((i : Int) + 1)) E (T.map conv)) else (none)) else (replevinref07_Blocks.l0 k a (pick i (blocksB E.length T a)) (wrap64 ((i : Int) + 1)) E (T.map conv)))) ?_ (fun k => by rw [if_neg (by simp)])
            refine Ev.bind (tied_ev E T 5 i a hT) ?_
            rw [hs, hb i, h1] at hih
            cases h5 : tiedB T 5 i a with
            | true =>
              rw [h5] at hih
              exact hih.same (fun k => by rw [if_pos rfl, if_pos (by omega), w64 i (by omega)]; rfl)
            | false =>
              rw [h5] at hih
              exact hih.same (fun k => by rw [if_neg (by simp), w64 i (by omega)]; rfl)
        · rw [replevinref07_Blocks.l0, if_pos (by omega), if_pos (by omega), decide_eq_true hin.2]
    exact h E.length 0 (by omega)
  · have hb : ∀ i, blocksB E.length T a i = false := fun i => by
      unfold blocksB inB
      rw [← Bool.not_eq_true]
      simp only [Bool.and_eq_true, decide_eq_true_eq]
      intro h
      exact hin h.1
    rw [pick_false (fun i _ => hb i)]
    refine Ev.step (h := fun k => replevinref07_Blocks.j1 k a [] 0 false E (T.map conv)) (Ev.done (fun k => ?_)) (fun k => ?_)
    · rw [replevinref07_Blocks.j1, if_neg (by simp)]
    · show replevinref07_Blocks.l0 (k + 1) a [] 0 E (T.map conv) = _
      rw [replevinref07_Blocks.l0]
      by_cases h0 : (0 : Int) < (E.length : Int)
      · rw [if_pos h0]
        by_cases h1 : a ≥ 0
        · rw [if_pos h1, decide_eq_false (fun h2 => hin ⟨h1, h2⟩)]
        · rw [if_neg h1]
      · rw [if_neg h0]
end Go.Proofs.Ytofgaeiihclokaa.P
