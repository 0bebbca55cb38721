/- Lemmas and contracts for the functions of one layer of the program, used by the law's proof. No conditions beyond those typed. -/
import Derived.Test.YtngcdkbnljoodaaDoorWWords
import Derived.Test.YtngcdkbnljoodaaDoorWLast
import Derived.Test.YtngcdkbnljoodaaDoorWMore
import Derived.Test.YtngcdkbnljoodaaDoorWShare
import Derived.WalkSpells
import Derived.WalkLawsBesides
import Derived.Lib.Hide
namespace Go.Proofs.YtngcdkbnljoodaaDoor
set_option linter.unusedVariables false
set_option linter.unusedSimpArgs false
open Go.RowKit Go.Proofs.YtngcdkbnljoodaaDoorW.PrintWords

theorem add_of_add (a : Addr) (i j : Nat) : (a.add i).add j = a.add (i + j) := by
  unfold Addr.add
  by_cases hi : i = 0 <;> by_cases hj : j = 0 <;> simp [hi, hj, Nat.add_assoc]
/-- A part of a row that is read. -/
theorem C_part {α : Type} {d : Kd α} {w : World} {A : Option Addr} {n lo hi m : Nat} {xs : List α} (h : d.C w A n xs) (h1 : lo ≤ hi) (h2 : hi ≤ n) (hm : lo < hi → m ≠ lo) :
    d.C w (if m = lo then A else A.map (·.add (lo * d.sz))) (hi - lo) ((xs.take hi).drop lo) := by
  refine ⟨by rw [List.length_drop, List.length_take, h.1]; omega, by have := h.2.1; omega, fun hp => ?_⟩
  obtain ⟨ad, rfl, hc⟩ := h.2.2 (by omega)
  rw [if_neg (hm (by omega))]
  refine ⟨_, rfl, fun j p hj => ?_⟩
  rw [List.getElem?_drop, List.getElem?_take] at hj
  split at hj
  · obtain ⟨c, h3, h4, h5⟩ := hc (lo + j) p hj
    refine ⟨c, h3, h4, fun i u hu => ?_⟩
    have := h5 i u hu
    rw [show (lo + j) * d.sz + i = lo * d.sz + (j * d.sz + i) by rw [Nat.add_mul]; omega] at this
    rw [← this]
    congr 1
    exact add_of_add ad _ _
  · cases hj
/-- 'xs[lo:hi:hi]' of a slice that is read, without a case on the address. -/
theorem cut_lhh {α : Type} {P : Program} (d : Kd α) (t e : TypeId) {i : TypeInfo} (ht : P.underlying t = some (.slice e)) (hi' : P.info? e = some i) (hsz : i.size = d.sz) (A : Option Addr) (n c lo hi : Nat) (h1 : lo ≤ hi) (h2 : hi ≤ n) (hc : n ≤ c) :
    ∃ A', (∀ W : World, (Instr.slice t (.slice A n c) (some (.int .i64 (lo : Int))) (some (.int .i64 (hi : Int))) (some (.int .i64 (hi : Int)))).run P W = .ok (.slice A' (hi - lo) (hi - lo)) W) ∧
      ∀ (w : World) (xs : List α), d.C w A n xs → d.C w A' (hi - lo) ((xs.take hi).drop lo) := by
  refine ⟨if hi = lo then A else A.map (·.add (lo * d.sz)), fun W => ?_, fun w xs h => C_part h h1 h2 (by omega)⟩
  have hel : P.elem t = e := by simp [Program.elem, ht]
  have hu : P.underlying t = some (.slice (P.elem t)) := by rw [hel]; exact ht
  rw [run_slice_lhm W t A n c hu .i64 .i64 .i64 (lo : Int) (hi : Int) (hi : Int) (by omega) (by omega) (by omega) (by omega), hel]
  simp [sizeOf, typeInfo, hi', hsz, sliced, Result.andThen]
end Go.Proofs.YtngcdkbnljoodaaDoor

