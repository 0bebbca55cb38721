/- The journal's part: is, bytes, cleared, Look, Records walk. No conditions beyond those typed. The journal's Look, Records, blocks, put walk. No conditions beyond those typed. -/
import Derived.Test.YtngcdkbnljoodaaGreatDoorJouN
import Derived.Test.YtngcdkbnljoodaaGreatDoorJouW
import Derived.Deep.RegionHeld3
import Derived.IntWalk
import Derived.Deep.QuietTactic
import Derived.BigQuiet
namespace Go.Proofs.YtngcdkbnljoodaaGreatDoor
set_option linter.unusedVariables false
set_option linter.unusedSimpArgs false
open Go.RowKit Go.Proofs.YtngcdkbnljoodaaGreatDoorW.PrintWords

theorem StoreIs.alloc {w : World} {p b : Nat} {s : St} (h : StoreIs w p b s) (o : Obj) : StoreIs (w.alloc o) p b s := by
  obtain ⟨a, c, ⟨wr, d⟩, e⟩ := h
  exact ⟨a, c, ⟨wr, blk_alloc d o⟩, blk_alloc e o⟩
theorem StoreIs.below {w w' : World} {p b : Nat} {s : St} (h : StoreIs w p b s) (hb : Below w.heap.size w w') : StoreIs w' p b s := by
  obtain ⟨a, c, ⟨wr, d⟩, e⟩ := h
  exact ⟨a, c, ⟨wr, blk_below d hb⟩, blk_below e hb⟩
theorem blk_cells {w w1 : World} (hb : Below w.heap.size w w1) {g : Nat} (hg : g < w.heap.size) (i : Nat) : w1.cell? ⟨g, i, none⟩ = w.cell? ⟨g, i, none⟩ := hb.cell (p := ⟨g, i, none⟩) hg
def partC (p : Nat) (pf nb : Int) : Array Value := #[.pointer (some ⟨p, 0, none⟩), .int .i64 pf, .int .i64 nb]
theorem part_extract {s : St} (hs : s.Wf) {pf nb : Nat} (h : s.Has pf nb) : (mkS s.bs).extract (pf * 32) ((pf + nb) * 32) = mkS (partB s pf nb) := by
  rw [mkS_extract, list_mkS]
  unfold partB
  rw [show (pf + nb) * 32 - pf * 32 = 32 * nb by omega, Nat.mul_comm pf 32]
set_option maxHeartbeats 2000000 in
set_option maxRecDepth 100000 in
theorem pbytes_of {w : World} {p b : Nat} {s : St} (h : StoreIs w p b s) (pf nb : Nat) (hh : s.Has pf nb) :
    Calls Tryz.prog 56 #[.agg #[.pointer (some ⟨p, 0, none⟩), .int .i64 (pf : Int), .int .i64 (nb : Int)]] w fun e w' => e = .returned (.string (mkS (partB s pf nb))) ∧ Below w.heap.size w w' := by
  have hx := part_extract h.wf hh
  have hhi := h.wf.hi
  have h2 := hh.2
  have hlen : (mkS s.bs).size = 32 * s.n := by rw [size_mkS, h.wf.len]
  have HX := Lib.hid hx
  have HS := Lib.hid h
  clear hx h hh
  go_enter Tryz.func56, Tryz.ntmps56
  go_wp2
  obtain ⟨W, hW⟩ : ∃ W, W = w.alloc (.cells #[.pointer (some ⟨p, 0, none⟩), .int .i64 (pf : Int), .int .i64 (nb : Int)] 101) := ⟨_, rfl⟩
  rw [← hW]
  have HS1 : Hid (StoreIs W p b s) := by show StoreIs _ _ _ _; rw [hW]; exact HS.out.alloc _
  have HB1 : Hid (Below w.heap.size w W) := by show Below _ _ _; rw [hW]; exact (Below.refl _ _).alloc (Nat.le_refl _) _
  have hq : W.heap[w.heap.size]? = some (.cells #[.pointer (some ⟨p, 0, none⟩), .int .i64 (pf : Int), .int .i64 (nb : Int)] 101 (0, 0)) := by rw [hW]; exact blk_new w _
  have hlt := blk_lt hq
  have x0 : W.cell? ⟨w.heap.size, 0, none⟩ = some (.pointer (some ⟨p, 0, none⟩)) := blk_cell hq 0
  have x1 : W.cell? ⟨w.heap.size, 1, none⟩ = some (.int .i64 (pf : Int)) := blk_cell hq 1
  have x2 : W.cell? ⟨w.heap.size, 2, none⟩ = some (.int .i64 (nb : Int)) := blk_cell hq 2
  clear hW hq
  have hby := bytes_of HS1.out.drew
  obtain ⟨lo, hlo⟩ : ∃ lo : Nat, lo = pf * 32 := ⟨_, rfl⟩
  obtain ⟨m, hm⟩ : ∃ m : Nat, m = pf + nb := ⟨_, rfl⟩
  obtain ⟨hi, hhi2⟩ : ∃ hi : Nat, hi = m * 32 := ⟨_, rfl⟩
  have s1 : IntKind.i64.wrap ((pf : Int) * 32) = (lo : Int) := by rw [IntWalk.i64_in _ (by omega)]; omega
  have s2 : IntKind.i64.wrap ((pf : Int) + (nb : Int)) = (m : Int) := by rw [IntWalk.i64_in _ (by omega)]; omega
  have s3 : IntKind.i64.wrap ((m : Int) * 32) = (hi : Int) := by rw [IntWalk.i64_in _ (by omega)]; omega
  have l1 : (lo : Int) ≤ (hi : Int) := by omega
  have l2 : (hi : Int) ≤ ((mkS s.bs).size : Int) := by rw [hlen]; omega
  have l3 : hi ≤ (mkS s.bs).size := by omega
  have l0 : (0 : Int) ≤ (lo : Int) := by omega
  have HX2 : Hid ((mkS s.bs).extract lo hi = mkS (partB s pf nb)) := by have := HX.out; rw [← hm, ← hhi2, ← hlo] at this; exact this
  generalize hM : mkS s.bs = M at *
  have HBY := Lib.hid hby
  clear hlo hm hhi2 hlen hM HX hby
  go_region_held3 (fun w' => w'.cell? ⟨w.heap.size, 0, none⟩ = some (.pointer (some ⟨p, 0, none⟩)) ∧ w'.cell? ⟨w.heap.size, 1, none⟩ = some (.int .i64 (pf : Int)) ∧ w'.cell? ⟨w.heap.size, 2, none⟩ = some (.int .i64 (nb : Int)))
    (go_keep)
    (first | (go_at_call 21; refine (HBY.out).mono ?_; rintro e w2 ⟨rfl, hb⟩; have HB2 := Lib.hid (HB1.out.drew.trans (hb.mono HB1.out.size)); have x0 := (blk_cells hb hlt 0).trans x0; have x1 := (blk_cells hb hlt 1).trans x1; have x2 := (blk_cells hb hlt 2).trans x2))
  go_wp2
  go_ret
  exact ⟨by rw [HX2.out]; rfl, HB2.out⟩

theorem below_box (w : World) (o : Obj) (k : Nat) : Below w.heap.size w ((w.alloc o).drewN k) := by
  have h := (Below.refl w.heap.size w).alloc (Nat.le_refl _) o
  exact ⟨h.os, h.tape, h.output, h.size, h.block⟩
def isB (n : Nat) (pf nb : Int) : Bool := decide (0 ≤ pf ∧ 1 ≤ nb ∧ pf < n ∧ nb ≤ n - pf)
set_option maxHeartbeats 4000000 in
set_option maxRecDepth 100000 in
theorem is_of {w : World} {p b : Nat} {s : St} (h : StoreIs w p b s) (pf nb : Int) :
    Calls Tryz.prog 54 #[.agg #[.pointer (some ⟨p, 0, none⟩), .int .i64 pf, .int .i64 nb]] w fun e w' => e = .returned (.bool (isB s.n pf nb)) ∧ Below w.heap.size w w' := by
  have HIS : Hid (isB s.n pf nb = decide (0 ≤ pf ∧ 1 ≤ nb ∧ pf < s.n ∧ nb ≤ s.n - pf)) := rfl
  have hn := h.wf.hi
  have HBK : Hid (∀ k, Calls Tryz.prog 29 #[.pointer (some ⟨p, 0, none⟩)] ((w.alloc (.cells #[.pointer (some ⟨p, 0, none⟩), .int .i64 pf, .int .i64 nb] 101)).drewN k) fun e w' => e = .returned (.int .i64 (s.n : Int)) ∧ w' = (w.alloc (.cells #[.pointer (some ⟨p, 0, none⟩), .int .i64 pf, .int .i64 nb] 101)).drewN k) := fun k => by
    have h1 := h.alloc (.cells #[.pointer (some ⟨p, 0, none⟩), .int .i64 pf, .int .i64 nb] 101)
    have h2 : StoreIs ((w.alloc (.cells #[.pointer (some ⟨p, 0, none⟩), .int .i64 pf, .int .i64 nb] 101)).drewN k) p b s := ⟨h1.wf, h1.ne, h1.head, h1.row⟩
    exact (blocks_of h2).mono fun e w' ⟨a, b⟩ => ⟨a, b.symm⟩
  clear h
  by_cases h0 : 0 ≤ pf
  · have g0 : decide (0 ≤ pf) = true := decide_eq_true h0
    by_cases h1 : 1 ≤ nb
    · have g1 : decide (1 ≤ nb) = true := decide_eq_true h1
      by_cases h2 : pf < (s.n : Int)
      · have g2 : decide (pf < (s.n : Int)) = true := decide_eq_true h2
        have s1 : IntKind.i64.wrap ((s.n : Int) - pf) = (s.n : Int) - pf := IntWalk.i64_in _ (by omega)
        have HF : Hid (isB s.n pf nb = decide (nb ≤ (s.n : Int) - pf)) := by show _ = _; rw [HIS.out]; simp [h0, h1, h2]
        go_enter Tryz.func54, Tryz.ntmps54
        go_wp2
        go_quiet ((go_at_call 29; exact Calls.quiet_of_same (HBK.out _)))
        go_wp2
        go_ret
        exact ⟨by rw [HF.out]; rfl, below_box w _ _⟩
      · have g2 : decide (pf < (s.n : Int)) = false := decide_eq_false h2
        have HF : Hid (isB s.n pf nb = false) := by show _ = _; rw [HIS.out]; simp [h2]
        go_enter Tryz.func54, Tryz.ntmps54
        go_wp2
        go_quiet ((go_at_call 29; exact Calls.quiet_of_same (HBK.out _)))
        go_wp2
        go_ret
        exact ⟨by rw [HF.out]; rfl, below_box w _ _⟩
    · have g1 : decide (1 ≤ nb) = false := decide_eq_false h1
      have HF : Hid (isB s.n pf nb = false) := by show _ = _; rw [HIS.out]; simp [h1]
      go_enter Tryz.func54, Tryz.ntmps54
      go_wp2
      go_quiet ((go_at_call 29; exact Calls.quiet_of_same (HBK.out _)))
      go_wp2
      go_ret
      exact ⟨by rw [HF.out]; rfl, below_box w _ _⟩
  · have g0 : decide (0 ≤ pf) = false := decide_eq_false h0
    have HF : Hid (isB s.n pf nb = false) := by show _ = _; rw [HIS.out]; simp [h0]
    go_enter Tryz.func54, Tryz.ntmps54
    go_wp2
    go_quiet ((go_at_call 29; exact Calls.quiet_of_same (HBK.out _)))
    go_wp2
    go_ret
    exact ⟨by rw [HF.out]; rfl, below_box w _ _⟩
theorem repeat_zs (n : Nat) : Lib.repeatL [0] n = zs n := by
  induction n with
  | zero => rfl
  | succ n ih => show [0] ++ Lib.repeatL [0] n = _; rw [ih]; unfold zs; rw [List.replicate_succ]; rfl
set_option maxHeartbeats 2000000 in
set_option maxRecDepth 100000 in
theorem cleared_of (s : ByteArray) (k : Nat) (hk : k ≤ s.size) (hs : s.size ≤ 1000000) (w : World) :
    Calls Tryz.prog 59 #[.string s, .int .i64 (k : Int)] w fun e w' => e = .returned (.string (mkS (openAll s.data.toList k))) ∧ Below w.heap.size w w' := by
  have hr := Tryz.strings_Repeat (mkS [0]) (s.size - k) w.drew (by omega) (by rw [size_mkS]; simp; omega)
  rw [list_mkS, repeat_zs] at hr
  obtain ⟨m, hm⟩ : ∃ m : Nat, m = s.size - k := ⟨_, rfl⟩
  have s1 : IntKind.i64.wrap ((s.size : Int) - (k : Int)) = (m : Int) := by rw [IntWalk.i64_in _ (by omega)]; omega
  rw [← hm] at hr
  obtain ⟨Z, hZ⟩ : ∃ Z, Z = mkS (zs m) := ⟨_, rfl⟩
  have hzs : Z.size ≤ 1000000 := by rw [hZ, size_mkS, zs_length]; omega
  have hA : s.extract 0 k = mkS (s.data.toList.take k) := by rw [mkS_extract]; rfl
  obtain ⟨A, hAA⟩ : ∃ A, A = mkS (s.data.toList.take k) := ⟨_, rfl⟩
  have has : A.size ≤ 1000000 := by rw [hAA, size_mkS, List.length_take]; omega
  have HF : Hid (A ++ Z = mkS (openAll s.data.toList k)) := by
    show _ = _
    rw [hAA, hZ, mkS_append, hm]
    rfl
  rw [← hAA] at hA
  rw [show (⟨(zs m).toArray⟩ : ByteArray) = Z from hZ.symm] at hr
  have hk2 : (k : Int) ≤ (s.size : Int) := by omega
  have hk0 : (0 : Int) ≤ (k : Int) := by omega
  have hsum : A.size + Z.size ≤ 9223372036854775807 := by omega
  have hsum2 : (A.size : Int) + (Z.size : Int) ≤ 9223372036854775807 := by omega
  have hrun : ∀ W : World, (Op.stringOp .add A Z).run Tryz.prog W = .ok (.string (A ++ Z)) W := fun W => run_string_add_sum W A Z (by omega)
  have hsum3 : (9223372036854775807 < A.size + Z.size) = False := eq_false (by omega)
  have HR := Lib.hid hr
  clear hr hm hZ hAA
  go_enter Tryz.func59, Tryz.ntmps59
  go_wp2
  go_region_held3 (fun w' => True) (trivial) (first | (go_at_call 57; refine (HR.out).mono ?_; rintro e w2 ⟨rfl, hb⟩; have HB := Lib.hid hb))
  go_wp2
  go_ret
  exact ⟨by rw [HF.out]; rfl, ⟨HB.out.os, HB.out.tape, HB.out.output, HB.out.size, HB.out.block⟩⟩
end Go.Proofs.YtngcdkbnljoodaaGreatDoor

namespace Go.Proofs.YtngcdkbnljoodaaGreatDoor
set_option linter.unusedVariables false
set_option linter.unusedSimpArgs false
open Go.RowKit Go.Proofs.YtngcdkbnljoodaaGreatDoorW.PrintWords

theorem isB_true {s : St} {pf nb : Int} (h : isB s.n pf nb = true) : ∃ a b : Nat, pf = a ∧ nb = b ∧ s.Has a b := by
  have h2 := of_decide_eq_true h
  exact ⟨pf.toNat, nb.toNat, by omega, by omega, by omega, by omega⟩
theorem isB_has {s : St} {a b : Nat} (h : s.Has a b) : isB s.n a b = true := by
  have h1 := h.1
  have h2 := h.2
  exact decide_eq_true ⟨by omega, by omega, by omega, by omega⟩
/-- What a look at a part finds. -/
def LookPost (s : St) (pf nb : Int) (w : World) (e : Ending) (w' : World) : Prop := Below w.heap.size w w' ∧
  ((isB s.n pf nb = false ∧ e = .returned (.slice none 0 0)) ∨
    (∃ a b : Nat, pf = a ∧ nb = b ∧ s.Has a b ∧ ∃ (v : Value) (l : List Bs) (t : Bs), e = .returned v ∧ IsScan (partB s a b) l t ∧ w'.ownsRow w.heap.size 9 1 v l.length (l.map strV)))
theorem own_mono {w : World} {base base' : Nat} {e : TypeId} {size n : Nat} {v : Value} {xs : List Value} (h : w.ownsRow base e size v n xs) (hb : base' ≤ base) : w.ownsRow base' e size v n xs := by
  obtain ⟨h1, h2⟩ := h
  refine ⟨h1, ?_⟩
  rcases h2 with h2 | ⟨g, cap, cur, hv, hg, r⟩
  · exact Or.inl h2
  · exact Or.inr ⟨g, cap, cur, hv, by omega, r⟩
set_option maxHeartbeats 2000000 in
set_option maxRecDepth 100000 in
theorem look_of {w : World} {p b : Nat} {s : St} (h : StoreIs w p b s) (pf nb : Int) :
    Calls Tryz.prog 32 #[.pointer (some ⟨p, 0, none⟩), .int .i64 pf, .int .i64 nb] w (LookPost s pf nb w) := by
  have hn := h.wf.hi
  have hl := h.lt
  cases hB : isB s.n pf nb
  · have h1 := h.alloc (.cells #[.pointer (some ⟨p, 0, none⟩), .int .i64 pf, .int .i64 nb] 101)
    have his := is_of h1 pf nb
    rw [hB] at his
    have HB := Lib.hid hB
    have HIS := Lib.hid his
    clear hB his h h1
    go_enter Tryz.func32, Tryz.ntmps32
    go_wp2_with fail
    refine (HIS.out).mono ?_
    rintro e w1 ⟨rfl, hb⟩
    go_wp2_with fail
    go_ret
    exact ⟨((Below.refl _ _).alloc (Nat.le_refl _) _).trans (hb.mono (by simp)), Or.inl ⟨HB.out, rfl⟩⟩
  · obtain ⟨a, c, rfl, rfl, hh⟩ := isB_true hB
    have h1 := h.alloc (.cells #[.pointer (some ⟨p, 0, none⟩), .int .i64 (a : Int), .int .i64 (c : Int)] 101)
    have his := is_of h1 (a : Int) (c : Int)
    rw [hB] at his
    have HB := Lib.hid hB
    have HIS := Lib.hid his
    have HS := Lib.hid h1
    have hpl := partB_length h.wf hh
    have hh2 := hh.2
    have HH := Lib.hid hh
    clear hB his h h1 hh
    go_enter Tryz.func32, Tryz.ntmps32
    go_wp2_with fail
    refine (HIS.out).mono ?_
    rintro e w1 ⟨rfl, hb⟩
    have hx := fun i => blk_cells hb (g := w.heap.size) (by simp) i
    have x0 : w1.cell? ⟨w.heap.size, 0, none⟩ = some (.pointer (some ⟨p, 0, none⟩)) := (hx 0).trans (blk_cell (blk_new w _) 0)
    have x1 : w1.cell? ⟨w.heap.size, 1, none⟩ = some (.int .i64 (a : Int)) := (hx 1).trans (blk_cell (blk_new w _) 1)
    have x2 : w1.cell? ⟨w.heap.size, 2, none⟩ = some (.int .i64 (c : Int)) := (hx 2).trans (blk_cell (blk_new w _) 2)
    have HS1 := Lib.hid (HS.out.below hb)
    have HB1 := Lib.hid (((Below.refl w.heap.size w).alloc (Nat.le_refl _) _).trans (hb.mono (by simp)))
    clear hb hx
    go_wp2_with fail
    refine (pbytes_of HS1.out a c HH.out).mono ?_
    rintro e w2 ⟨rfl, hb⟩
    have HB2 := Lib.hid (HB1.out.trans (hb.mono HB1.out.size))
    clear hb x0 x1 x2
    go_wp2_with fail
    refine (Scan_of (mkS (partB s a c)) (by rw [size_mkS, hpl]; omega) _).mono ?_
    rintro e w3 ⟨v, l, t, rfl, hsc, hown, hb⟩
    rw [list_mkS] at hsc
    have HSC := Lib.hid hsc
    have HO := Lib.hid (own_mono hown HB2.out.size)
    have HB3 := Lib.hid (HB2.out.trans (hb.mono HB2.out.size))
    clear hsc hown hb
    go_wp2_with fail
    go_ret
    exact ⟨HB3.out, Or.inr ⟨a, c, rfl, rfl, HH.out, v, l, t, rfl, HSC.out, HO.out⟩⟩
end Go.Proofs.YtngcdkbnljoodaaGreatDoor

