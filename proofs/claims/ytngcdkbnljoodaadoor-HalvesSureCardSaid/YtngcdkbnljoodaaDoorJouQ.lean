/- The journal's Look, Records, blocks, put walk. No conditions beyond those typed. -/
import Derived.Test.YtngcdkbnljoodaaDoorJouP
namespace Go.Proofs.YtngcdkbnljoodaaDoor
set_option linter.unusedVariables false
set_option linter.unusedSimpArgs false
open Go.RowKit Go.Proofs.YtngcdkbnljoodaaDoorW.PrintWords

theorem isB_true {s : St} {pf nb : Int} (h : isB s.n pf nb = true) : ∃ a b : Nat, pf = a ∧ nb = b ∧ s.Has a b := by
  have h2 := of_decide_eq_true h
  exact ⟨pf.toNat, nb.toNat, by omega, by omega, by omega, by omega⟩
theorem isB_has {s : St} {a b : Nat} (h : s.Has a b) : isB s.n a b = true := by
  have h1 := h.1
  have h2 := h.2
  exact decide_eq_true ⟨by omega, by omega, by omega, by omega⟩
/-- What a look at a part finds. -/
def LookPost (s : St) (pf nb : Int) (w : World) (e : Ending) (w' : World) : Prop := Below w.heap.size w w' ∧
  ((isB s.n pf nb = false ∧ e = .returned (.slice none 0 0)) ∨
    (∃ a b : Nat, pf = a ∧ nb = b ∧ s.Has a b ∧ ∃ (v : Value) (l : List Bs) (t : Bs), e = .returned v ∧ IsScan (partB s a b) l t ∧ w'.ownsRow w.heap.size 9 1 v l.length (l.map strV)))
theorem own_mono {w : World} {base base' : Nat} {e : TypeId} {size n : Nat} {v : Value} {xs : List Value} (h : w.ownsRow base e size v n xs) (hb : base' ≤ base) : w.ownsRow base' e size v n xs := by
  obtain ⟨h1, h2⟩ := h
  refine ⟨h1, ?_⟩
  rcases h2 with h2 | ⟨g, cap, cur, hv, hg, r⟩
  · exact Or.inl h2
  · exact Or.inr ⟨g, cap, cur, hv, by omega, r⟩
set_option maxHeartbeats 2000000 in
set_option maxRecDepth 100000 in
theorem look_of {w : World} {p b : Nat} {s : St} (h : StoreIs w p b s) (pf nb : Int) :
    Calls Tryd.prog 21 #[.pointer (some ⟨p, 0, none⟩), .int .i64 pf, .int .i64 nb] w (LookPost s pf nb w) := by
  have hn := h.wf.hi
  have hl := h.lt
  cases hB : isB s.n pf nb
  · have h1 := h.alloc (.cells #[.pointer (some ⟨p, 0, none⟩), .int .i64 pf, .int .i64 nb] 67)
    have his := is_of h1 pf nb
    rw [hB] at his
    have HB := Lib.hid hB
    have HIS := Lib.hid his
    clear hB his h h1
    go_enter Tryd.func21, Tryd.ntmps21
    go_wp2_with fail
    refine (HIS.out).mono ?_
    rintro e w1 ⟨rfl, hb⟩
    go_wp2_with fail
    go_ret
    exact ⟨((Below.refl _ _).alloc (Nat.le_refl _) _).trans (hb.mono (by simp)), Or.inl ⟨HB.out, rfl⟩⟩
  · obtain ⟨a, c, rfl, rfl, hh⟩ := isB_true hB
    have h1 := h.alloc (.cells #[.pointer (some ⟨p, 0, none⟩), .int .i64 (a : Int), .int .i64 (c : Int)] 67)
    have his := is_of h1 (a : Int) (c : Int)
    rw [hB] at his
    have HB := Lib.hid hB
    have HIS := Lib.hid his
    have HS := Lib.hid h1
    have hpl := partB_length h.wf hh
    have hh2 := hh.2
    have HH := Lib.hid hh
    clear hB his h h1 hh
    go_enter Tryd.func21, Tryd.ntmps21
    go_wp2_with fail
    refine (HIS.out).mono ?_
    rintro e w1 ⟨rfl, hb⟩
    have hx := fun i => blk_cells hb (g := w.heap.size) (by simp) i
    have x0 : w1.cell? ⟨w.heap.size, 0, none⟩ = some (.pointer (some ⟨p, 0, none⟩)) := (hx 0).trans (blk_cell (blk_new w _) 0)
    have x1 : w1.cell? ⟨w.heap.size, 1, none⟩ = some (.int .i64 (a : Int)) := (hx 1).trans (blk_cell (blk_new w _) 1)
    have x2 : w1.cell? ⟨w.heap.size, 2, none⟩ = some (.int .i64 (c : Int)) := (hx 2).trans (blk_cell (blk_new w _) 2)
    have HS1 := Lib.hid (HS.out.below hb)
    have HB1 := Lib.hid (((Below.refl w.heap.size w).alloc (Nat.le_refl _) _).trans (hb.mono (by simp)))
    clear hb hx
    go_wp2_with fail
    refine (pbytes_of HS1.out a c HH.out).mono ?_
    rintro e w2 ⟨rfl, hb⟩
    have HB2 := Lib.hid (HB1.out.trans (hb.mono HB1.out.size))
    clear hb x0 x1 x2
    go_wp2_with fail
    refine (Scan_of (mkS (partB s a c)) (by rw [size_mkS, hpl]; omega) _).mono ?_
    rintro e w3 ⟨v, l, t, rfl, hsc, hown, hb⟩
    rw [list_mkS] at hsc
    have HSC := Lib.hid hsc
    have HO := Lib.hid (own_mono hown HB2.out.size)
    have HB3 := Lib.hid (HB2.out.trans (hb.mono HB2.out.size))
    clear hsc hown hb
    go_wp2_with fail
    go_ret
    exact ⟨HB3.out, Or.inr ⟨a, c, rfl, rfl, HH.out, v, l, t, rfl, HSC.out, HO.out⟩⟩
end Go.Proofs.YtngcdkbnljoodaaDoor

