/- A slice of acts among a law's arguments, as a row. No conditions beyond those typed. -/
import Derived.Test.YtngcdkbnljoodaaJouDr
import Derived.Test.YtngcdkbnljoodaaJouRw
import Derived.Deep.Fields
namespace Go.Proofs.Ytngcdkbnljoodaa
set_option linter.unusedVariables false
set_option linter.unusedSimpArgs false
open Go.RowKit Go.ChangeShapes Go.WideShapes Go.Deep

theorem act_cells : Try.prog.cellsOf 39 = 4 := by kernel_rfl
theorem act_bytes : Try.prog.bytesOf 39 = 40 := by kernel_rfl
theorem open_four {H : Type} {enc : TypeId × Value → H} {P : Program} {w : World} {base : Nat} {spare : Nat → Bool} {held : Bool} {t : TypeId} {f0 f1 f2 f3 : Field} {fuel : Nat} {cs : List Value} {x : DataW H × List MemPlace}
    (hs : P.underlying t = some (.struct #[f0, f1, f2, f3])) (hone : oneCellFields P #[f0, f1, f2, f3] = true) (hC : P.cellsOf t = 4) (h : DataW.trod enc P w base spare held fuel t cs = some x) :
    ∃ (c0 c1 c2 c3 : Value) (y0 y1 y2 y3 : DataW H × List MemPlace) (n : Nat), cs = [c0, c1, c2, c3] ∧
      DataW.trod enc P w base spare held n f0.type [c0] = some y0 ∧ DataW.trod enc P w base spare held n f1.type [c1] = some y1 ∧ DataW.trod enc P w base spare held n f2.type [c2] = some y2 ∧ DataW.trod enc P w base spare held n f3.type [c3] = some y3 := by
  obtain ⟨xs, n, _, hx, hl, hlen, hg⟩ := DataW.trod_struct hs h
  rw [hC] at hl
  match cs, hl with
  | [c0, c1, c2, c3], _ =>
    obtain ⟨o0, k0⟩ := hone_of hone 0 f0 rfl
    obtain ⟨o1, k1⟩ := hone_of hone 1 f1 rfl
    obtain ⟨o2, k2⟩ := hone_of hone 2 f2 rfl
    obtain ⟨o3, k3⟩ := hone_of hone 3 f3 rfl
    match xs, hlen with
    | [y0, y1, y2, y3], _ =>
      exact ⟨c0, c1, c2, c3, y0, y1, y2, y3, n, rfl, by simpa [o0, k0] using hg 0 f0 rfl, by simpa [o1, k1] using hg 1 f1 rfl, by simpa [o2, k2] using hg 2 f2 rfl, by simpa [o3, k3] using hg 3 f3 rfl⟩
theorem i64_wf {n : Int} (h : (Lit.int .i64 n).wf = true) : n ≤ 9223372036854775807 := by
  simp [Lit.wf, IntKind.min, IntKind.max, IntKind.signed, IntKind.bits] at h
  omega
set_option maxRecDepth 100000 in
theorem row_acts {H : Type} {enc : TypeId × Value → H} {W : World} {ts : List TypeId} {ds : List (DataW H)} {j : Nat} {d : DataW H} {p : List MemPlace} {a : Option Addr} {len cap : Nat}
    (hsz : (DataW.weightsEach Try.prog ts ds).all (· ≤ reachBytes) = true) (ht : ts[j]? = some 22) (hd : ds[j]? = some d) (h : DataW.Trod enc Try.prog W 0 (fun _ => true) true 22 (.slice a len cap) d p) :
    ∃ l : List ActV, RowA W (.slice a len cap) l ∧ l.length ≤ 140737488351232 ∧ ∀ x ∈ l, x.t.length ≤ 9223372036854775807 ∧ x.n ≤ 9223372036854775807 := by
  obtain ⟨fuel, hf⟩ := h
  rcases open_slice Try.underlying22 hf with ⟨hcs, hx⟩ | ⟨x, l, c, m, n, D, Pl, hcs, _, hl, hm, hmm, hx, hall⟩
  · simp [Value.cells] at hcs
    obtain ⟨rfl, rfl, rfl⟩ := hcs
    exact ⟨[], ⟨none, 0, rfl, fun k x h => by simp at h⟩, by simp, by simp⟩
  · simp [Value.cells] at hcs
    obtain ⟨rfl, rfl, rfl⟩ := hcs
    simp only [if_true] at hmm
    subst hmm
    simp only [Prod.mk.injEq] at hx
    obtain ⟨rfl, rfl⟩ := hx
    have each : ∀ i, i < len → ∃ v : ActV, (W.cell? (x.add (i * 4)) = some (.int .i64 v.k) ∧ W.cell? ⟨(x.add (i * 4)).block, (x.add (i * 4)).off + 1, none⟩ = some (.int .i64 v.n) ∧ W.cell? ⟨(x.add (i * 4)).block, (x.add (i * 4)).off + 2, none⟩ = some (.int .i64 v.m) ∧ W.cell? ⟨(x.add (i * 4)).block, (x.add (i * 4)).off + 3, none⟩ = some (strV v.t)) ∧ v.t.length ≤ 9223372036854775807 ∧ v.n ≤ 9223372036854775807 := fun i hi => by
      obtain ⟨cs', h1, h2⟩ := hall i (by omega)
      rw [act_cells] at h1
      obtain ⟨_, _, hcell⟩ := World.cells?_some h1
      obtain ⟨c0, c1, c2, c3, y0, y1, y2, y3, n', rfl, t0, t1, t2, t3⟩ := open_four Try.underlying39 (by kernel_rfl) act_cells h2
      obtain ⟨z0, e0, _, _⟩ := DataW.trod_int Try.underlying3 t0
      obtain ⟨z1, e1, _, hw1⟩ := DataW.trod_int Try.underlying3 t1
      obtain ⟨z2, e2, _, _⟩ := DataW.trod_int Try.underlying3 t2
      obtain ⟨z3, e3, _, hw3⟩ := DataW.trod_string Try.underlying9 t3
      simp only [List.cons.injEq, and_true] at e0 e1 e2 e3
      subst e0 e1 e2 e3
      refine ⟨⟨z0, z1, z2, z3.data.toList⟩, ⟨?_, ?_, ?_, ?_⟩, hw3, i64_wf hw1⟩
      · have := hcell 0 (by decide)
        exact this
      · have := hcell 1 (by decide)
        exact this
      · have := hcell 2 (by decide)
        exact this
      · have := hcell 3 (by decide)
        rw [strV, mkS_list]
        exact this
    have : Inhabited ActV := ⟨⟨0, 0, 0, []⟩⟩
    obtain ⟨V, hV⟩ := choose_lt each
    refine ⟨(List.range len).map V, ⟨some x, _, by rw [List.length_map, List.length_range], fun k y hk => ⟨x, rfl, ?_⟩⟩, ?_, ?_⟩
    · rw [List.getElem?_map, Option.map_eq_some_iff] at hk
      obtain ⟨i, hi, rfl⟩ := hk
      obtain ⟨hil, rfl⟩ := List.getElem?_eq_some_iff.1 hi
      rw [List.getElem_range]
      exact (hV k (by rw [List.length_range] at hil; exact hil)).1
    · have h1 := sized_slice hsz ht hd Try.underlying22
      rw [act_bytes] at h1
      simp only [List.length_map, List.length_range, reachBytes] at h1
      rw [List.length_map, List.length_range]
      omega
    · intro y hy
      obtain ⟨i, hi, rfl⟩ := List.mem_map.1 hy
      exact (hV i (List.mem_range.1 hi)).2
end Go.Proofs.Ytngcdkbnljoodaa
