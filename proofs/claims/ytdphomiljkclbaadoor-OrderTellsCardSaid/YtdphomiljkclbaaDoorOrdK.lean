/- How an order, a struct of five fields, reads as an argument, before and behind a call. No conditions beyond those typed. -/
import Derived.Test.YtdphomiljkclbaaDoorRows
import Derived.Test.YtdphomiljkclbaaDoorOrdJ
import Derived.WalkKit
import Derived.ProofKit
import Derived.OpenShut
import Derived.ShutString
import Derived.ChangeOld
import Derived.Below
import Derived.SizedLaws
import Derived.Lib.SmallJoins
import Derived.Lib.LaidTab
import Derived.LaidSub
import Derived.LaidLaws
import Derived.LaidMore
import Derived.ChangeVars
import Derived.JoinedAt
namespace Go.Proofs.YtdphomiljkclbaaDoor
open Go.Joins Go.ChangeShapes Go.WideShapes Go.RowKit Go.Deep
set_option linter.unusedVariables false
section
variable {H : Type} {enc : TypeId × Value → H} {P : Program} {w : World} {base : Nat} {spare : Nat → Bool} {held : Bool}
theorem open_agg5 {r : Reach} {b0 : Nat} {t : TypeId} {f0 f1 f2 f3 f4 : Field} {v : Value} {d : DataW H} {p : List MemPlace} (hs : P.underlying t = some (.struct #[f0, f1, f2, f3, f4])) (hone : oneCellFields P #[f0, f1, f2, f3, f4] = true) (hC : P.cellsOf t = 5)
    (hv : Value.okWide P w r b0 t v) (h : DataW.Trod enc P w base spare held t v d p) :
    ∃ (v0 v1 v2 v3 v4 : Value) (y0 y1 y2 y3 y4 : DataW H × List MemPlace) (n : Nat), v = .agg #[v0, v1, v2, v3, v4] ∧ d = .agg [y0.1, y1.1, y2.1, y3.1, y4.1] ∧ p = y0.2 ++ (y1.2 ++ (y2.2 ++ (y3.2 ++ y4.2))) ∧
      DataW.trod enc P w base spare held n f0.type [v0] = some y0 ∧ DataW.trod enc P w base spare held n f1.type [v1] = some y1 ∧ DataW.trod enc P w base spare held n f2.type [v2] = some y2 ∧ DataW.trod enc P w base spare held n f3.type [v3] = some y3 ∧ DataW.trod enc P w base spare held n f4.type [v4] = some y4 := by
  obtain ⟨cs, rfl, hsz⟩ := okWide_struct hs hv
  obtain ⟨l⟩ := cs
  match l, hsz.trans hC with
  | [c0, c1, c2, c3, c4], _ =>
    obtain ⟨fuel, hf⟩ := h
    obtain ⟨xs, n, _, hx, _, hlen, hg⟩ := DataW.trod_struct hs hf
    obtain ⟨o0, k0⟩ := hone_of hone 0 f0 rfl
    obtain ⟨o1, k1⟩ := hone_of hone 1 f1 rfl
    obtain ⟨o2, k2⟩ := hone_of hone 2 f2 rfl
    obtain ⟨o3, k3⟩ := hone_of hone 3 f3 rfl
    obtain ⟨o4, k4⟩ := hone_of hone 4 f4 rfl
    match xs, hlen with
    | [y0, y1, y2, y3, y4], _ =>
      simp only [Prod.mk.injEq] at hx
      exact ⟨c0, c1, c2, c3, c4, y0, y1, y2, y3, y4, n, rfl, by simpa using hx.1, by simpa using hx.2, by simpa [Value.cells, o0, k0] using hg 0 f0 rfl, by simpa [Value.cells, o1, k1] using hg 1 f1 rfl, by simpa [Value.cells, o2, k2] using hg 2 f2 rfl, by simpa [Value.cells, o3, k3] using hg 3 f3 rfl, by simpa [Value.cells, o4, k4] using hg 4 f4 rfl⟩
theorem trod_struct5_mk {t : TypeId} {f0 f1 f2 f3 f4 : Field} {n : Nat} {cs : List Value} {y0 y1 y2 y3 y4 : DataW H × List MemPlace} (ht : P.underlying t = some (.struct #[f0, f1, f2, f3, f4])) (hl : cs.length = P.cellsOf t)
    (h0 : DataW.trod enc P w base spare held n f0.type ((cs.drop f0.offset).take (P.cellsOf f0.type)) = some y0) (h1 : DataW.trod enc P w base spare held n f1.type ((cs.drop f1.offset).take (P.cellsOf f1.type)) = some y1)
    (h2 : DataW.trod enc P w base spare held n f2.type ((cs.drop f2.offset).take (P.cellsOf f2.type)) = some y2) (h3 : DataW.trod enc P w base spare held n f3.type ((cs.drop f3.offset).take (P.cellsOf f3.type)) = some y3)
    (h4 : DataW.trod enc P w base spare held n f4.type ((cs.drop f4.offset).take (P.cellsOf f4.type)) = some y4) :
    DataW.trod enc P w base spare held (n + 1) t cs = some (.agg [y0.1, y1.1, y2.1, y3.1, y4.1], y0.2 ++ (y1.2 ++ (y2.2 ++ (y3.2 ++ y4.2)))) := by
  have := trod_struct_mk (enc := enc) (w := w) (base := base) (spare := spare) (held := held) (n := n) (xs := [y0, y1, y2, y3, y4]) ht hl (by simp [h0, h1, h2, h3, h4])
  simpa using this
theorem shut_agg5 {t : TypeId} {f0 f1 f2 f3 f4 : Field} {v0 v1 v2 v3 v4 : Value} {y0 y1 y2 y3 y4 : DataW H × List MemPlace} (hs : P.underlying t = some (.struct #[f0, f1, f2, f3, f4])) (hone : oneCellFields P #[f0, f1, f2, f3, f4] = true) (hC : P.cellsOf t = 5) (n : Nat)
    (t0 : DataW.trod enc P w base spare held n f0.type [v0] = some y0) (t1 : DataW.trod enc P w base spare held n f1.type [v1] = some y1) (t2 : DataW.trod enc P w base spare held n f2.type [v2] = some y2) (t3 : DataW.trod enc P w base spare held n f3.type [v3] = some y3) (t4 : DataW.trod enc P w base spare held n f4.type [v4] = some y4) :
    DataW.Trod enc P w base spare held t (.agg #[v0, v1, v2, v3, v4]) (.agg [y0.1, y1.1, y2.1, y3.1, y4.1]) (y0.2 ++ (y1.2 ++ (y2.2 ++ (y3.2 ++ y4.2)))) := by
  obtain ⟨o0, k0⟩ := hone_of hone 0 f0 rfl
  obtain ⟨o1, k1⟩ := hone_of hone 1 f1 rfl
  obtain ⟨o2, k2⟩ := hone_of hone 2 f2 rfl
  obtain ⟨o3, k3⟩ := hone_of hone 3 f3 rfl
  obtain ⟨o4, k4⟩ := hone_of hone 4 f4 rfl
  have ts := trod_struct5_mk (enc := enc) (w := w) (base := base) (spare := spare) (held := held) (n := n) (cs := [v0, v1, v2, v3, v4]) hs (by simp [hC])
    (by simpa [o0, k0] using t0) (by simpa [o1, k1] using t1) (by simpa [o2, k2] using t2) (by simpa [o3, k3] using t3) (by simpa [o4, k4] using t4)
  exact ⟨_, by simpa [Value.cells] using ts⟩
end
def dOrd {H : Type} (o : Ord) : DataW H := .agg [.lit (.int .i64 o.k), .lit (.string o.c.data.toList), .lit (.string o.e.data.toList), .lit (.string o.u.data.toList), .lit (.int .i64 o.n)]
structure OrdOk (o : Ord) : Prop where
  wk : (Lit.int .i64 o.k).wf = true
  wn : (Lit.int .i64 o.n).wf = true
  wc : o.c.size ≤ maxLen
  we : o.e.size ≤ maxLen
  wu : o.u.size ≤ maxLen
section
variable {H : Type} {enc : TypeId × Value → H} {w : World} {base : Nat} {spare : Nat → Bool} {held : Bool}
theorem oneO : oneCellFields Tryd.prog #[{ name := "Kind", type := 3, offset := 0, embedded := false, tag := "", pkgPath := "", byteOffset := 0 }, { name := "Case", type := 9, offset := 1, embedded := false, tag := "", pkgPath := "", byteOffset := 8 }, { name := "Event", type := 9, offset := 2, embedded := false, tag := "", pkgPath := "", byteOffset := 24 }, { name := "User", type := 9, offset := 3, embedded := false, tag := "", pkgPath := "", byteOffset := 40 }, { name := "N", type := 3, offset := 4, embedded := false, tag := "", pkgPath := "", byteOffset := 56 }] = true := by kernel_rfl
theorem openO {r : Reach} {b0 : Nat} {v : Value} {d : DataW H} {p : List MemPlace} (hv : Value.okWide Tryd.prog w r b0 23 v) (h : DataW.Trod enc Tryd.prog w base spare held 23 v d p) :
    ∃ o : Ord, v = ordV o ∧ d = dOrd o ∧ p = [] ∧ OrdOk o := by
  obtain ⟨v0, v1, v2, v3, v4, y0, y1, y2, y3, y4, n, rfl, rfl, rfl, h0, h1, h2, h3, h4⟩ := open_agg5 Tryd.underlying23 oneO (by kernel_rfl) hv h
  obtain ⟨k, e0, rfl, w0⟩ := DataW.trod_int Tryd.underlying3 h0
  obtain ⟨c, e1, rfl, w1⟩ := DataW.trod_string Tryd.underlying9 h1
  obtain ⟨e, e2, rfl, w2⟩ := DataW.trod_string Tryd.underlying9 h2
  obtain ⟨u, e3, rfl, w3⟩ := DataW.trod_string Tryd.underlying9 h3
  obtain ⟨m, e4, rfl, w4⟩ := DataW.trod_int Tryd.underlying3 h4
  injection e0 with e0; injection e1 with e1; injection e2 with e2; injection e3 with e3; injection e4 with e4
  subst e0 e1 e2 e3 e4
  exact ⟨⟨k, c, e, u, m⟩, rfl, rfl, rfl, ⟨w0, w4, w1, w2, w3⟩⟩
theorem str_mk (m : Nat) {s : ByteArray} (hs : s.size ≤ maxLen) : DataW.trod enc Tryd.prog w base spare held (m + 1) 9 [.string s] = some (.lit (.string s.data.toList), []) := by
  simp [DataW.trod, Tryd.underlying9, hs]
theorem shutO {o : Ord} (h : OrdOk o) : DataW.Trod enc Tryd.prog w base spare held 23 (ordV o) (dOrd o) [] :=
  shut_agg5 (enc := enc) Tryd.underlying23 oneO (by kernel_rfl) 1 (trod_int_mk 0 Tryd.underlying3 h.wk) (str_mk 0 h.wc) (str_mk 0 h.we) (str_mk 0 h.wu) (trod_int_mk 0 Tryd.underlying3 h.wn)
end
theorem own : ownKnob Tryd.prog.godebug = none := by kernel_rfl
def laidL : List (String × DataW Unit) := [("math/bits.deBruijn32tab", Rows.laid_math_bits_deBruijn32tab), ("math/bits.deBruijn64tab", Rows.laid_math_bits_deBruijn64tab), ("internal/strconv.uint64pow10", Rows.laid_internal_strconv_uint64pow10)]
theorem tab_of_laid {W : World} (h : laidMet Tryd.prog laidL W) : Tab W := by
  have h2 := h.filter (fun x => x.1 == "internal/strconv.uint64pow10")
  have e : laidL.filter (fun x => x.1 == "internal/strconv.uint64pow10") = ("internal/strconv.uint64pow10", Lib.tabData .u64 Lib.pow10Tab) :: [] := by kernel_rfl
  rw [e] at h2
  exact Lib.tabIs_of_head (g := 1) (t := 87) (e := 81) (n := 20) (by kernel_rfl) (by kernel_rfl) (by kernel_rfl) (by kernel_rfl) (by kernel_rfl) (by kernel_rfl) h2
theorem door_met (os : Os) (args : Array Value) : laidMet Tryd.prog laidL ((World.doorLaid Tryd.prog 600 os).forCall (fun _ _ => 0) ⟨#[], args, []⟩).memory :=
  laidMet_of_run' 8 (by kernel_rfl) (by kernel_rfl)
end Go.Proofs.YtdphomiljkclbaaDoor
