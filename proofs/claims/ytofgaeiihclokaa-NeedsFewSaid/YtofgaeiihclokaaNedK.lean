/- NeedsFew: with a tie more nothing matters less; the law's look for a number in a list. No conditions beyond those typed. -/
import Derived.Test.YtofgaeiihclokaaNedA
import Derived.Maps.OwnSet
namespace Go.Proofs.Ytofgaeiihclokaa.P
open Go.RowKit Go.Shelf Go.Lib Go.Sort Go.Maps Go.Proofs.YtofgaeiihclokaaW.PrintWords Go.Proofs.YtofgaeiihclokaaW.PrintLast Go.Proofs.YtofgaeiihclokaaW.PrintMore
set_option linter.unusedVariables false
set_option linter.unusedSimpArgs false

theorem get_lt {l : List Int} {k : Nat} (h : k < l.length) : l[k]? = some (rd l (k : Int)) := by
  show _ = some (l.getD _ 0)
  rw [Int.toNat_natCast]
  exact get_some h
theorem needs_edge {E : List S68} {T : List S48} {i j : Nat} (hi : i < E.length) (hj : j < E.length) (h : needB T i j = true) : edgeB (netL E T) i j = true := by
  unfold edgeB waysL
  rw [List.contains_iff_mem, List.mem_filter, netL_at E T hi, netL_length]
  refine ⟨mem_pick.2 ⟨j, hj, h, rfl⟩, ?_⟩
  rw [decide_eq_true (by omega), decide_eq_true (by omega)]
  rfl
/-! ### plain -/
theorem tied_more {T : List S48} (t : S48) {k a b : Int} (h : tiedB T k a b = true) : tiedB (T ++ [t]) k a b = true := by
  rw [tiedB_iff] at h ⊢
  obtain ⟨x, hx, h⟩ := h
  exact ⟨x, List.mem_append_left _ hx, h⟩
theorem any_more {n : Nat} {p q : Nat → Bool} (h : ∀ i, p i = true → q i = true) (hp : (List.range n).any p = true) : (List.range n).any q = true := by
  rw [List.any_eq_true] at hp ⊢
  obtain ⟨i, hi, h2⟩ := hp
  exact ⟨i, hi, h i h2⟩
theorem called_more {E : List S68} {T : List S48} (t : S48) {i : Nat} (h : calledB E T i = true) : calledB E (T ++ [t]) i = true := by
  unfold calledB at h ⊢
  rw [Bool.or_eq_true] at h ⊢
  exact h.imp id (any_more (fun _ => tied_more t))
theorem out_more {E : List S68} {T : List S48} (t : S48) {i : Nat} (h : outB E T i = true) : outB E (T ++ [t]) i = true := by
  unfold outB at h ⊢
  rw [Bool.or_eq_true] at h ⊢
  exact h.imp id (any_more (fun _ => tied_more t))
theorem need_more {T : List S48} (t : S48) {i j : Nat} (h : needB T i j = true) : needB (T ++ [t]) i j = true := by
  unfold needB at h ⊢
  rw [Bool.or_eq_true, Bool.or_eq_true] at h ⊢
  exact h.imp (Or.imp (tied_more t) (tied_more t)) (tied_more t)
theorem edge_need {E : List S68} {T : List S48} {i j : Nat} (h : edgeB (netL E T) i j = true) : i < E.length ∧ j < E.length ∧ needB T i j = true := by
  have hj := edge_lt h
  rw [netL_length] at hj
  unfold edgeB waysL at h
  rw [List.contains_iff_mem, List.mem_filter] at h
  have hi : i < E.length := by
    rcases Nat.lt_or_ge i E.length with h2 | h2
    · exact h2
    · have h3 := h.1
      rw [List.getD_eq_getElem?_getD, List.getElem?_eq_none (by rw [netL_length]; exact h2)] at h3
      simp at h3
  rw [netL_at E T hi] at h
  obtain ⟨j2, _, h5, h6⟩ := mem_pick.1 h.1
  have : j = j2 := by omega
  subst this
  exact ⟨hi, hj, h5⟩
theorem reach_more {E : List S68} {T : List S48} (t : S48) {i j : Nat} (h : reachB (netL E T) i j = true) : reachB (netL E (T ++ [t])) i j = true :=
  tb_least (R := fun i j => reachB (netL E (T ++ [t])) i j = true) (fun a b hab => by
    obtain ⟨h1, h2, h3⟩ := edge_need hab
    exact reach_edge (needs_edge h1 h2 (need_more t h3))) (fun a b c hab hbc => reach_trans hab hbc) _ i j h
theorem matters_more {E : List S68} {T : List S48} (t : S48) {i : Nat} (h : mattersB E T i = true) : mattersB E (T ++ [t]) i = true := by
  unfold mattersB at h ⊢
  rw [Bool.or_eq_true] at h ⊢
  refine h.imp (called_more t) (any_more (fun c hc => ?_))
  rw [Bool.and_eq_true] at hc
  rw [called_more t hc.1, reach_more t hc.2]
  rfl
theorem pick_more {n : Nat} {p q : Nat → Bool} (h : ∀ i, p i = true → q i = true) : (∀ x, x ∈ pick n p → x ∈ pick n q) ∧ (pick n p).length ≤ (pick n q).length := by
  constructor
  · intro x hx
    obtain ⟨i, h1, h2, h3⟩ := mem_pick.1 hx
    exact mem_pick.2 ⟨i, h1, h i h2, h3⟩
  · induction n with
    | zero => simp [pick_zero]
    | succ n ih =>
      rw [pick_succ, pick_succ]
      by_cases hp : p n = true
      · rw [if_pos hp, if_pos (h n hp), List.length_append, List.length_append]
        simp only [List.length_singleton]
        omega
      · rw [if_neg hp]
        split
        · rw [List.length_append]
          omega
        · exact ih

set_option maxRecDepth 100000 in
/-- The law's has: of a number that stands in a list. -/
theorem lhas_of (A : Option Addr) (c : Nat) (l : List Int) (x : Int) (w : World) (h : Kd.C (Kd.int .i64) w A l.length l) (hx : x ∈ l) (hl : l.length < 4398046511104) :
    Calls Try.prog 30 #[.slice A l.length c, .int .i64 x] w fun e w' => e = .returned (.bool true) ∧ Below w.heap.size w w' := by
  obtain ⟨n, hn⟩ : ∃ n, n = l.length := ⟨_, rfl⟩
  have HN := Lib.hid hn
  have HC := Lib.hid h
  have HX := Lib.hid hx
  rw [← hn] at hl HC ⊢
  clear h hx hn
  go_enter Try.func30, Try.ntmps30
  go_wp2_with fail
  go_loopw [6, 9] (fun _ i wr => w = wr ∧ ∃ k : Nat, k ≤ n ∧ i = .int .i64 (k : Int) ∧ Hid (∀ j, j < k → rd l (j : Int) ≠ x)) (fun _ i _ => n - (intOf i).toNat)
  case atStart => exact ⟨rfl, 0, Nat.zero_le _, rfl, fun j hj => absurd hj (Nat.not_lt_zero _)⟩
  case round =>
    obtain ⟨rfl, k, hkn, rfl, HK⟩ := hrel
    by_cases hk : k < n
    · have hc1k : (k : Int) < (n : Int) := by omega
      have hcl := HC.out
      obtain ⟨ad, rfl, a0⟩ := Kd.at_int hcl (k : Int) (by omega) (by omega)
      rw [Int.toNat_natCast] at a0
      have hwk : IntKind.i64.wrap ((k : Int) + 1) = (k : Int) + 1 := IntWalk.i64_in _ (by omega)
      obtain ⟨y, hy⟩ : ∃ y, y = rd l (k : Int) := ⟨_, rfl⟩
      have HY := Lib.hid hy
      rw [← hy] at a0
      clear hcl hy
      by_cases e : y = x
      · have e1 : (y == x) = true := beq_iff_eq.mpr e
        clear e
        go_wp2_with fail
        go_ret
        exact ⟨rfl, Below.refl _ _⟩
      · have e1 : (y == x) = false := beq_eq_false_iff_ne.mpr e
        have HE : Hid (y ≠ x) := e
        clear e
        go_wp2_with fail
        go_roundw
        case rel =>
          refine ⟨trivial, k + 1, by omega, rfl, fun j hj => ?_⟩
          by_cases e : j = k
          · subst e
            rw [← HY.out]
            exact HE.out
          · exact HK.out j (by omega)
        case measure => simp [intOf]; omega
    · exfalso
      obtain ⟨j, hj, hjx⟩ := List.mem_iff_getElem.1 HX.out
      have h2 := get_lt hj
      rw [List.getElem?_eq_getElem hj, hjx] at h2
      injection h2 with h2
      exact HK.out j (by have := HN.out; omega) h2.symm
end Go.Proofs.Ytofgaeiihclokaa.P
