/- A flat graph as an argument: its events and ties as they are read. No conditions beyond those typed. -/
import Derived.Test.YtofgaeiihclokaaP0
import Derived.Deep.Slices
import Derived.Deep.Fields
import Derived.ChangeSame
import Derived.Lib.SmallJoins
namespace Go.Proofs.Ytofgaeiihclokaa.P
open Go.ChangeShapes Go.WideShapes Go.Deep Go.RowKit Go.Proofs.YtofgaeiihclokaaW.PrintWords
set_option linter.unusedVariables false
set_option linter.unusedSimpArgs false

theorem cs_string : Try.prog.cellsOf 9 = 1 := by kernel_rfl
theorem cs_bool : Try.prog.cellsOf 4 = 1 := by kernel_rfl
theorem cs_int : Try.prog.cellsOf 3 = 1 := by kernel_rfl
theorem add_two (a : Addr) (i j : Nat) : (a.add i).add j = a.add (i + j) := by
  unfold Addr.add
  by_cases hi : i = 0 <;> by_cases hj : j = 0 <;> simp [hi, hj, Nat.add_assoc]
section
variable {H : Type} {enc : TypeId × Value → H} {W : World} {spare : Nat → Bool} {held : Bool}
theorem at_len {α : Type} {xs : List α} {n k : Nat} (h : xs.length = n) (hk : k < n) : ∃ y, xs[k]? = some y := ⟨_, List.getElem?_eq_getElem (by omega)⟩
set_option maxRecDepth 100000 in
theorem row_events {fuel : Nat} {cs : List Value} {x : DataW H × List MemPlace} (h : DataW.trod enc Try.prog W 0 spare held fuel 22 cs = some x) :
    ∃ (A : Option Addr) (c : Nat) (E : List S68), cs = [.slice A E.length c] ∧ E.length ≤ c ∧ Kd.C k68 W A E.length E := by
  rcases open_slice Try.underlying22 h with ⟨hcs, hx⟩ | ⟨ad, len, cap, m, n, D, Pl, hcs, _, hl, hm, hmm, hx, hall⟩
  · exact ⟨none, 0, [], hcs, Nat.le_refl _, rfl, by decide, fun h => absurd h (by simp)⟩
  · have each : ∀ i, i < len → ∃ x : S68, ∀ j u, [Value.string x.f0, .string x.f1, .string x.f2, .bool x.f3, .bool x.f4, .int .i64 x.f5][j]? = some u → W.cell? (ad.add (i * 6 + j)) = some u := by
      intro i hi
      obtain ⟨cs', h1, h2⟩ := hall i (by rw [hmm]; split <;> omega)
      rw [show Try.prog.cellsOf 68 = 6 by kernel_rfl] at h1
      obtain ⟨_, _, hcell⟩ := World.cells?_some h1
      obtain ⟨xs, n', _, _, hlen, hxl, hf⟩ := DataW.trod_struct Try.underlying68 h2
      rw [show Try.prog.cellsOf 68 = 6 by kernel_rfl] at hlen
      match cs', hlen, hcell, hf with
      | [u0, u1, u2, u3, u4, u5], _, hcell, hf =>
        have z0 := hf 0 _ rfl
        have z1 := hf 1 _ rfl
        have z2 := hf 2 _ rfl
        have z3 := hf 3 _ rfl
        have z4 := hf 4 _ rfl
        have z5 := hf 5 _ rfl
        simp only [List.getElem_toArray, List.getElem_cons_zero, List.getElem_cons_succ, cs_string, cs_bool, cs_int, List.drop_zero, List.drop_succ_cons, List.take_succ_cons, List.take_zero] at z0 z1 z2 z3 z4 z5
        obtain ⟨y0, g0⟩ := at_len (k := 0) hxl (by decide)
        obtain ⟨y1, g1⟩ := at_len (k := 1) hxl (by decide)
        obtain ⟨y2, g2⟩ := at_len (k := 2) hxl (by decide)
        obtain ⟨y3, g3⟩ := at_len (k := 3) hxl (by decide)
        obtain ⟨y4, g4⟩ := at_len (k := 4) hxl (by decide)
        obtain ⟨y5, g5⟩ := at_len (k := 5) hxl (by decide)
        obtain ⟨s0, e0, _⟩ := DataW.trod_string Try.underlying9 (z0.trans g0)
        obtain ⟨s1, e1, _⟩ := DataW.trod_string Try.underlying9 (z1.trans g1)
        obtain ⟨s2, e2, _⟩ := DataW.trod_string Try.underlying9 (z2.trans g2)
        obtain ⟨s3, e3, _⟩ := DataW.trod_bool Try.underlying4 (z3.trans g3)
        obtain ⟨s4, e4, _⟩ := DataW.trod_bool Try.underlying4 (z4.trans g4)
        obtain ⟨s5, e5, _⟩ := DataW.trod_int Try.underlying3 (z5.trans g5)
        simp only [List.cons.injEq, and_true] at e0 e1 e2 e3 e4 e5
        subst e0 e1 e2 e3 e4 e5
        refine ⟨⟨s0, s1, s2, s3, s4, s5⟩, fun j u hu => ?_⟩
        have hj : j < 6 := (List.getElem?_eq_some_iff.1 hu).1
        rw [← add_two, hcell j hj]
        exact hu
    have : Inhabited S68 := ⟨z68⟩
    obtain ⟨V, hV⟩ := choose_lt each
    have hEl : ((List.range len).map V).length = len := by simp
    refine ⟨some ad, cap, (List.range len).map V, by rw [hEl]; exact hcs, by rw [hEl]; exact hl, ?_⟩
    rw [hEl]
    refine ⟨hEl, by unfold maxLen at hm; omega, fun _ => ⟨ad, rfl, fun j p hj => ?_⟩⟩
    rw [List.getElem?_map, Option.map_eq_some_iff] at hj
    obtain ⟨i, hi, rfl⟩ := hj
    obtain ⟨hil, rfl⟩ := List.getElem?_eq_some_iff.1 hi
    rw [List.getElem_range]
    refine ⟨_, rfl, k68_mk W (V j), hV j (by rw [List.length_range] at hil; exact hil)⟩
set_option maxRecDepth 100000 in
theorem row_ties {fuel : Nat} {cs : List Value} {x : DataW H × List MemPlace} (h : DataW.trod enc Try.prog W 0 spare held fuel 23 cs = some x) :
    ∃ (A : Option Addr) (c : Nat) (T : List S48), cs = [.slice A T.length c] ∧ T.length ≤ c ∧ Kd.C k48 W A T.length T := by
  rcases open_slice Try.underlying23 h with ⟨hcs, hx⟩ | ⟨ad, len, cap, m, n, D, Pl, hcs, _, hl, hm, hmm, hx, hall⟩
  · exact ⟨none, 0, [], hcs, Nat.le_refl _, rfl, by decide, fun h => absurd h (by simp)⟩
  · have each : ∀ i, i < len → ∃ x : S48, ∀ j u, [Value.int .i64 x.f0, .int .i64 x.f1, .int .i64 x.f2, .int .i64 x.f3][j]? = some u → W.cell? (ad.add (i * 4 + j)) = some u := by
      intro i hi
      obtain ⟨cs', h1, h2⟩ := hall i (by rw [hmm]; split <;> omega)
      rw [show Try.prog.cellsOf 48 = 4 by kernel_rfl] at h1
      obtain ⟨_, _, hcell⟩ := World.cells?_some h1
      obtain ⟨xs, n', _, _, hlen, hxl, hf⟩ := DataW.trod_struct Try.underlying48 h2
      rw [show Try.prog.cellsOf 48 = 4 by kernel_rfl] at hlen
      match cs', hlen, hcell, hf with
      | [u0, u1, u2, u3], _, hcell, hf =>
        have z0 := hf 0 _ rfl
        have z1 := hf 1 _ rfl
        have z2 := hf 2 _ rfl
        have z3 := hf 3 _ rfl
        simp only [List.getElem_toArray, List.getElem_cons_zero, List.getElem_cons_succ, cs_string, cs_bool, cs_int, List.drop_zero, List.drop_succ_cons, List.take_succ_cons, List.take_zero] at z0 z1 z2 z3
        obtain ⟨y0, g0⟩ := at_len (k := 0) hxl (by decide)
        obtain ⟨y1, g1⟩ := at_len (k := 1) hxl (by decide)
        obtain ⟨y2, g2⟩ := at_len (k := 2) hxl (by decide)
        obtain ⟨y3, g3⟩ := at_len (k := 3) hxl (by decide)
        obtain ⟨s0, e0, _⟩ := DataW.trod_int Try.underlying3 (z0.trans g0)
        obtain ⟨s1, e1, _⟩ := DataW.trod_int Try.underlying3 (z1.trans g1)
        obtain ⟨s2, e2, _⟩ := DataW.trod_int Try.underlying3 (z2.trans g2)
        obtain ⟨s3, e3, _⟩ := DataW.trod_int Try.underlying3 (z3.trans g3)
        simp only [List.cons.injEq, and_true] at e0 e1 e2 e3
        subst e0 e1 e2 e3
        refine ⟨⟨s0, s1, s2, s3⟩, fun j u hu => ?_⟩
        have hj : j < 4 := (List.getElem?_eq_some_iff.1 hu).1
        rw [← add_two, hcell j hj]
        exact hu
    have : Inhabited S48 := ⟨z48⟩
    obtain ⟨V, hV⟩ := choose_lt each
    have hEl : ((List.range len).map V).length = len := by simp
    refine ⟨some ad, cap, (List.range len).map V, by rw [hEl]; exact hcs, by rw [hEl]; exact hl, ?_⟩
    rw [hEl]
    refine ⟨hEl, by unfold maxLen at hm; omega, fun _ => ⟨ad, rfl, fun j p hj => ?_⟩⟩
    rw [List.getElem?_map, Option.map_eq_some_iff] at hj
    obtain ⟨i, hi, rfl⟩ := hj
    obtain ⟨hil, rfl⟩ := List.getElem?_eq_some_iff.1 hi
    rw [List.getElem_range]
    refine ⟨_, rfl, k48_mk W (V j), hV j (by rw [List.length_range] at hil; exact hil)⟩
set_option maxRecDepth 100000 in
/-- A flat graph. -/
theorem row_flat {r : Reach} {b0 : Nat} {v : Value} {d : DataW H} {p : List MemPlace} (hv : Value.okWide Try.prog W r b0 25 v) (h : DataW.Trod enc Try.prog W 0 spare held 25 v d p) :
    ∃ (A0 A1 : Option Addr) (c0 c1 : Nat) (E : List S68) (T : List S48), v = .agg #[.slice A0 E.length c0, .slice A1 T.length c1] ∧ Kd.C k68 W A0 E.length E ∧ E.length ≤ c0 ∧ Kd.C k48 W A1 T.length T ∧ T.length ≤ c1 := by
  obtain ⟨v0, v1, y0, y1, n, rfl, _, _, h0, h1⟩ := Go.Joins.open_agg2 Try.underlying25 (by kernel_rfl) (by kernel_rfl) hv h
  obtain ⟨A0, c0, E, e0, p0, q0⟩ := row_events h0
  obtain ⟨A1, c1, T, e1, p1, q1⟩ := row_ties h1
  simp only [List.cons.injEq, and_true] at e0 e1
  subst e0 e1
  exact ⟨A0, A1, c0, c1, E, T, rfl, q0, p0, q1, p1⟩
end
end Go.Proofs.Ytofgaeiihclokaa.P
