/- NeedsHold's walk: what matters holds what blocks it, what it calls for, and all that may be called for. No conditions beyond those typed. -/
import Derived.Test.YtofgaeiihclokaaNedU
import Derived.Test.YtofgaeiihclokaaNedA
import Derived.Maps.OwnSet
namespace Go.Proofs.Ytofgaeiihclokaa.P
open Go.RowKit Go.Shelf Go.Lib Go.Sort Go.Maps Go.Proofs.YtofgaeiihclokaaW.PrintWords Go.Proofs.YtofgaeiihclokaaW.PrintLast Go.Proofs.YtofgaeiihclokaaW.PrintMore
set_option linter.unusedVariables false
set_option linter.unusedSimpArgs false

/-! ### plain -/
theorem matters_called {E : List S68} {T : List S48} {i : Nat} (h : calledB E T i = true) : mattersB E T i = true := by
  unfold mattersB
  rw [h, Bool.true_or]
theorem needs_edge {E : List S68} {T : List S48} {i j : Nat} (hi : i < E.length) (hj : j < E.length) (h : needB T i j = true) : edgeB (netL E T) i j = true := by
  unfold edgeB waysL
  rw [List.contains_iff_mem, List.mem_filter, netL_at E T hi, netL_length]
  refine ⟨mem_pick.2 ⟨j, hj, h, rfl⟩, ?_⟩
  rw [decide_eq_true (by omega), decide_eq_true (by omega)]
  rfl
theorem matters_closed {E : List S68} {T : List S48} {i j : Nat} (hi : i < E.length) (hj : j < E.length) (h : mattersB E T i = true) (hn : needB T i j = true) : mattersB E T j = true := by
  have he := needs_edge hi hj hn
  unfold mattersB at h ⊢
  rw [Bool.or_eq_true, List.any_eq_true] at h
  rw [Bool.or_eq_true, List.any_eq_true]
  right
  rcases h with h | ⟨c, hc, h⟩
  · exact ⟨i, List.mem_range.2 hi, by rw [h, reach_edge he]; rfl⟩
  · rw [Bool.and_eq_true] at h
    exact ⟨c, hc, by rw [h.1, reach_trans h.2 (reach_edge he)]; rfl⟩

/-! ### the set -/
/-- A set of numbers, by map[int]bool: each of S is in it, and only these. -/
structure BSet (w : World) (b k : Nat) (S : Int → Prop) : Prop where
  ex : ∃ D : DataW Unit, w.ownsMap Try.prog 3 (plainElem Try.prog 4) b k D ∧ (∀ x, has D (.int .i64 x) = true ↔ S x) ∧ ∀ x, S x → D.atKey (.int .i64 x) (.lit (.bool false)) = .lit (.bool true)
theorem BSet.keep {w w' : World} {b k : Nat} {S : Int → Prop} (h : BSet w b k S) (hb : w'.heap[b]? = w.heap[b]?) : BSet w' b k S := by
  obtain ⟨D, ⟨es, clock, h1, h2, h3, h4⟩, hD⟩ := h.ex
  exact ⟨D, ⟨es, clock, hb.trans h1, h2, h3, h4⟩, hD⟩
theorem BSet.obj {w : World} {b k : Nat} {S : Int → Prop} (h : BSet w b k S) : ∃ es clock, w.heap[b]? = some (.map es clock) := by
  obtain ⟨D, ⟨es, clock, h1, _⟩, _⟩ := h.ex
  exact ⟨es, clock, h1⟩
theorem BSet.lt {w : World} {b k : Nat} {S : Int → Prop} (h : BSet w b k S) : b < w.heap.size := by
  obtain ⟨D, h1, _⟩ := h.ex
  exact h1.lt
theorem BSet.imp {w : World} {b k : Nat} {S S' : Int → Prop} (h : BSet w b k S) (hS : ∀ x, S x ↔ S' x) : BSet w b k S' := by
  obtain ⟨D, h1, h2, h3⟩ := h.ex
  exact ⟨D, h1, fun x => (h2 x).trans (hS x), fun x hx => h3 x ((hS x).2 hx)⟩
theorem BSet.made (w : World) : BSet (w.alloc (.map #[] 0)) w.heap.size 0 (fun _ => False) :=
  ⟨.map [], World.ownsMap_made _ _ _ _, fun x => by simp [has_eq], fun x hx => hx.elim⟩
/-- m[x] of what is in it. -/
theorem BSet.look {w : World} {b k : Nat} {S : Int → Prop} (h : BSet w b k S) {x : Int} (hx : S x) (hw : 0 ≤ x ∧ x ≤ 9223372036854775807) : (Instr.lookup 46 (.map (some b)) (.int .i64 x) false).run Try.prog w = .ok (.bool true) w := by
  obtain ⟨D, h1, h2, h3⟩ := h.ex
  obtain ⟨v, ps, hrun, hv⟩ := h1.lookup intLaw Try.underlying46 (z := .bool false) (by kernel_rfl) (plainElem_bool Try.underlying4 false) (show keyOf Try.prog 3 (.int .i64 x) = some (.int .i64 x) from keyOf_int_mk Try.underlying3 (WalkArith.wf_i64 (by omega)))
  rw [h3 x hx] at hv
  have : v = .bool true := by
    cases v <;> simp [plainElem, Try.underlying4] at hv
    rename_i q
    first | (obtain ⟨hv, _⟩ := hv; simp_all) | simp_all
  rw [hrun, this]
/-- len(m). -/
theorem BSet.len {w : World} {b k : Nat} {l : List Int} (h : BSet w b k (fun x => x ∈ l)) (hn : l.Nodup) (ty : TypeId) : (Builtin.len_ #[46] ty #[.map (some b)]).run Try.prog w = .ok (.int .i64 (l.length : Int)) w := by
  obtain ⟨D, h1, h2, _⟩ := h.ex
  rw [h1.len Try.underlying46 ty]
  have hp : (intKeys D).Perm l := (List.perm_ext_iff_of_nodup (nodup_intKeys h1) hn).2 (fun x => by rw [mem_intKeys h1, h2])
  have hs : Maps.size D = (intKeys D).length := by
    obtain ⟨es, rfl, _⟩ := h1.keysOf
    show _ = (es.map fun p => Go.intOf p.1).length
    rw [List.length_map]
    rfl
  rw [hs, hp.length_eq]
/-- m[x] = true. -/
theorem BSet.put {w' : World} {b k : Nat} {S : Int → Prop} {D : DataW Unit} {x : Int} (h1 : IsMap D) (h2 : ∀ x, has D (.int .i64 x) = true ↔ S x) (h3 : ∀ x, S x → D.atKey (.int .i64 x) (.lit (.bool false)) = .lit (.bool true))
    (ho : w'.ownsMap Try.prog 3 (plainElem Try.prog 4) b (k + 1) (D.put (.int .i64 x) (.lit (.bool true)))) : BSet w' b (k + 1) (fun y => S y ∨ y = x) := by
  refine ⟨_, ho, fun y => ?_, fun y hy => ?_⟩
  · by_cases e : y = x
    · subst e
      rw [has_put_same h1 (show WideAt.IsKeyLit (.int .i64 y) from trivial)]
      simp
    · rw [has_put_other (by intro e2; injection e2 with _ e2; exact e e2), h2 y]
      simp [e]
  · by_cases e : y = x
    · subst e
      exact atKey_put_same h1 (show WideAt.IsKeyLit (.int .i64 y) from trivial) _ _
    · rw [atKey_put_other (by intro e2; injection e2 with _ e2; exact e e2)]
      exact h3 y (hy.resolve_right e)
end Go.Proofs.Ytofgaeiihclokaa.P
