/- A tie as an argument. No conditions beyond those typed. -/
import Derived.Test.YtofgaeiihclokaaNedV
namespace Go.Proofs.Ytofgaeiihclokaa.P
open Go.ChangeShapes Go.WideShapes Go.Deep Go.RowKit Go.Proofs.YtofgaeiihclokaaW.PrintWords
set_option linter.unusedVariables false
set_option linter.unusedSimpArgs false
set_option maxRecDepth 100000 in
/-- A tie. -/
theorem row_tie {H : Type} {enc : TypeId × Value → H} {W : World} {spare : Nat → Bool} {held : Bool} {r : Reach} {b0 : Nat} {v : Value} {d : DataW H} {p : List MemPlace} (hv : Value.okWide Try.prog W r b0 48 v) (h : DataW.Trod enc Try.prog W 0 spare held 48 v d p) :
    ∃ (t0 t1 t2 t3 : Int), v = .agg #[.int .i64 t0, .int .i64 t1, .int .i64 t2, .int .i64 t3] := by
  obtain ⟨v0, v1, v2, v3, y0, y1, y2, y3, n, rfl, _, _, h0, h1, h2, h3⟩ := Go.Joins.open_agg4 Try.underlying48 (by kernel_rfl) (by kernel_rfl) hv h
  obtain ⟨t0, e0, _⟩ := DataW.trod_int Try.underlying3 h0
  obtain ⟨t1, e1, _⟩ := DataW.trod_int Try.underlying3 h1
  obtain ⟨t2, e2, _⟩ := DataW.trod_int Try.underlying3 h2
  obtain ⟨t3, e3, _⟩ := DataW.trod_int Try.underlying3 h3
  simp only [List.cons.injEq, and_true] at e0 e1 e2 e3
  subst e0 e1 e2 e3
  exact ⟨t0, t1, t2, t3, rfl⟩
end Go.Proofs.Ytofgaeiihclokaa.P
