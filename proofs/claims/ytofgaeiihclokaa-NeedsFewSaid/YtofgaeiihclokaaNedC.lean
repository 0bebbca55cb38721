/- The closures of the layer needs: what each tells of a tie, of an event. No conditions beyond those typed. -/
import Derived.Test.YtofgaeiihclokaaNedJ
import Derived.Test.YtofgaeiihclokaaP1
namespace Go.Proofs.Ytofgaeiihclokaa.P
open Go.RowKit Go.Shelf Go.Lib Go.Sort Go.Proofs.YtofgaeiihclokaaW.PrintWords Go.Proofs.YtofgaeiihclokaaW.PrintLast Go.Proofs.YtofgaeiihclokaaW.PrintMore
set_option linter.unusedVariables false
set_option linter.unusedSimpArgs false

abbrev tieV (t : S48) : Value := .agg #[.int .i64 t.f0, .int .i64 t.f1, .int .i64 t.f2, .int .i64 t.f3]
abbrev eventV (x : S68) : Value := .agg #[.string x.f0, .string x.f1, .string x.f2, .bool x.f3, .bool x.f4, .int .i64 x.f5]

theorem blkc {w : World} {b : Nat} {cs : Array Value} {e : TypeId} (h : w.heap[b]? = some (.cells cs e (0, 0))) (j : Nat) : w.cell? ⟨b, j, none⟩ = cs[j]? := by
  unfold World.cell?
  rw [h]
  rfl

theorem tellK_called (t : S48) (W : World) :
    Calls Try.prog 51 #[tieV t] W fun e w' => e = .returned (.tuple #[.int .i64 (tellK 2 t).1, .bool (tellK 2 t).2]) ∧ Below W.heap.size W w' := by
  obtain ⟨a, b, c, d⟩ := t
  have HB := Lib.hid ((Below.refl W.heap.size W).alloc (Nat.le_refl _) (.cells #[.int .i64 a, .int .i64 b, .int .i64 c, .int .i64 d] 48))
  have hb := blk_new W (.cells #[.int .i64 a, .int .i64 b, .int .i64 c, .int .i64 d] 48)
  have c0 := blkc hb 0
  have c2 := blkc hb 2
  change _ = some (Value.int .i64 a) at c0
  change _ = some (Value.int .i64 c) at c2
  clear hb
  go_enter Try.func51, Try.ntmps51
  go_wp2_with fail
  go_quiet (fail)
  go_wp2_with fail
  go_ret2
  exact ⟨rfl, below_drewN' HB.out _⟩

theorem tellK_excluded (t : S48) (W : World) :
    Calls Try.prog 54 #[tieV t] W fun e w' => e = .returned (.tuple #[.int .i64 (tellK 4 t).1, .bool (tellK 4 t).2]) ∧ Below W.heap.size W w' := by
  obtain ⟨a, b, c, d⟩ := t
  have HB := Lib.hid ((Below.refl W.heap.size W).alloc (Nat.le_refl _) (.cells #[.int .i64 a, .int .i64 b, .int .i64 c, .int .i64 d] 48))
  have hb := blk_new W (.cells #[.int .i64 a, .int .i64 b, .int .i64 c, .int .i64 d] 48)
  have c0 := blkc hb 0
  have c2 := blkc hb 2
  change _ = some (Value.int .i64 a) at c0
  change _ = some (Value.int .i64 c) at c2
  clear hb
  go_enter Try.func54, Try.ntmps54
  go_wp2_with fail
  go_quiet (fail)
  go_wp2_with fail
  go_ret2
  exact ⟨rfl, below_drewN' HB.out _⟩

theorem tellB_of (B : Nat) (n : Int) (t : S48) (W : World) (hB : B < W.heap.size) (hn : W.cell? ⟨B, 0, none⟩ = some (.int .i64 n)) :
    Calls Try.prog 45 #[tieV t, .pointer (some ⟨B, 0, none⟩)] W fun e w' => e = .returned (.tuple #[.int .i64 (tellB n t).1, .bool (tellB n t).2]) ∧ Below W.heap.size W w' := by
  obtain ⟨a, b, c, d⟩ := t
  have HB := Lib.hid ((Below.refl W.heap.size W).alloc (Nat.le_refl _) (.cells #[.int .i64 a, .int .i64 b, .int .i64 c, .int .i64 d] 48))
  have hb := blk_new W (.cells #[.int .i64 a, .int .i64 b, .int .i64 c, .int .i64 d] 48)
  have c0 := blkc hb 0
  have c1 := blkc hb 1
  have c2 := blkc hb 2
  have cn := Lib.cell?_alloc_some (.cells #[.int .i64 a, .int .i64 b, .int .i64 c, .int .i64 d] 48) hn
  change _ = some (Value.int .i64 a) at c0
  change _ = some (Value.int .i64 b) at c1
  change _ = some (Value.int .i64 c) at c2
  clear hb
  go_enter Try.func45, Try.ntmps45
  by_cases h1 : c = n
  · have g1 : (c == n) = true := beq_iff_eq.mpr h1
    by_cases h2 : a = 1
    · have g2 : (a == 1) = true := beq_iff_eq.mpr h2
      have HR : Hid ((tellB n ⟨a, b, c, d⟩) = (b, true)) := by show _ = _; simp [tellB, h1, h2]
      clear h1 h2
      go_wp2_with fail
      go_quiet (fail)
      go_wp2_with fail
      go_ret2
      exact ⟨by rw [HR.out]; rfl, below_drewN' HB.out _⟩
    · have g2 : (a == 1) = false := beq_eq_false_iff_ne.mpr h2
      have HR : Hid ((tellB n ⟨a, b, c, d⟩) = (b, a == 5)) := by show _ = _; simp [tellB, h1, h2]; rfl
      clear h1 h2
      go_wp2_with fail
      go_quiet (fail)
      go_wp2_with fail
      go_ret2
      exact ⟨by rw [HR.out]; rfl, below_drewN' HB.out _⟩
  · have g1 : (c == n) = false := beq_eq_false_iff_ne.mpr h1
    have HR : Hid ((tellB n ⟨a, b, c, d⟩) = (b, false)) := by show _ = _; simp [tellB, h1]
    clear h1
    go_wp2_with fail
    go_quiet (fail)
    go_wp2_with fail
    go_ret2
    exact ⟨by rw [HR.out]; rfl, below_drewN' HB.out _⟩

theorem tellC_of (B : Nat) (n : Int) (t : S48) (W : World) (hB : B < W.heap.size) (hn : W.cell? ⟨B, 0, none⟩ = some (.int .i64 n)) :
    Calls Try.prog 47 #[tieV t, .pointer (some ⟨B, 0, none⟩)] W fun e w' => e = .returned (.tuple #[.int .i64 (tellC n t).1, .bool (tellC n t).2]) ∧ Below W.heap.size W w' := by
  obtain ⟨a, b, c, d⟩ := t
  have HB := Lib.hid ((Below.refl W.heap.size W).alloc (Nat.le_refl _) (.cells #[.int .i64 a, .int .i64 b, .int .i64 c, .int .i64 d] 48))
  have hb := blk_new W (.cells #[.int .i64 a, .int .i64 b, .int .i64 c, .int .i64 d] 48)
  have c0 := blkc hb 0
  have c1 := blkc hb 1
  have c2 := blkc hb 2
  have cn := Lib.cell?_alloc_some (.cells #[.int .i64 a, .int .i64 b, .int .i64 c, .int .i64 d] 48) hn
  change _ = some (Value.int .i64 a) at c0
  change _ = some (Value.int .i64 b) at c1
  change _ = some (Value.int .i64 c) at c2
  clear hb
  go_enter Try.func47, Try.ntmps47
  by_cases h1 : b = n
  · have g1 : (b == n) = true := beq_iff_eq.mpr h1
    have HR : Hid ((tellC n ⟨a, b, c, d⟩) = (c, a == 2)) := by show _ = _; simp [tellC, h1]; rfl
    clear h1
    go_wp2_with fail
    go_quiet (fail)
    go_wp2_with fail
    go_ret2
    exact ⟨by rw [HR.out]; rfl, below_drewN' HB.out _⟩
  · have g1 : (b == n) = false := beq_eq_false_iff_ne.mpr h1
    have HR : Hid ((tellC n ⟨a, b, c, d⟩) = (c, false)) := by show _ = _; simp [tellC, h1]
    clear h1
    go_wp2_with fail
    go_quiet (fail)
    go_wp2_with fail
    go_ret2
    exact ⟨by rw [HR.out]; rfl, below_drewN' HB.out _⟩

/-- What Called asks of an event. -/
theorem due_of (x : S68) (W : World) :
    Calls Try.prog 50 #[eventV x] W fun e w' => e = .returned (.bool (decide (0 ≤ x.f5))) ∧ Below W.heap.size W w' := by
  obtain ⟨x0, x1, x2, x3, x4, x5⟩ := x
  have HB := Lib.hid ((Below.refl W.heap.size W).alloc (Nat.le_refl _) (.cells #[.string x0, .string x1, .string x2, .bool x3, .bool x4, .int .i64 x5] 68))
  have hb := blk_new W (.cells #[.string x0, .string x1, .string x2, .bool x3, .bool x4, .int .i64 x5] 68)
  have c5 := blkc hb 5
  change _ = some (Value.int .i64 x5) at c5
  clear hb
  go_enter Try.func50, Try.ntmps50
  go_wp2_with fail
  go_ret
  exact ⟨rfl, HB.out⟩

/-- What Excluded asks of an event. -/
theorem out_of (x : S68) (W : World) :
    Calls Try.prog 53 #[eventV x] W fun e w' => e = .returned (.bool (!x.f3)) ∧ Below W.heap.size W w' := by
  obtain ⟨x0, x1, x2, x3, x4, x5⟩ := x
  have HB := Lib.hid ((Below.refl W.heap.size W).alloc (Nat.le_refl _) (.cells #[.string x0, .string x1, .string x2, .bool x3, .bool x4, .int .i64 x5] 68))
  have hb := blk_new W (.cells #[.string x0, .string x1, .string x2, .bool x3, .bool x4, .int .i64 x5] 68)
  have c3 := blkc hb 3
  change _ = some (Value.bool x3) at c3
  clear hb
  go_enter Try.func53, Try.ntmps53
  go_wp2_with fail
  go_ret
  exact ⟨rfl, HB.out⟩

/-- Is a tie between two events? -/
theorem two_of (A0 A1 : Option Addr) (c0 c1 n m : Nat) (t : S48) (l0 : List S68) (l1 : List S48) (W : World) (h0 : Kd.C k68 W A0 l0.length l0) (hc0 : l0.length ≤ c0) (h1 : Kd.C k48 W A1 l1.length l1) (hc1 : l1.length ≤ c1) :
    Calls Try.prog 55 #[.agg #[.slice A0 l0.length c0, .slice A1 l1.length c1], tieV t] W fun e w' => e = .returned (.bool (twoB l0.length t)) ∧ Below W.heap.size W w' := by
  refine needs_two.calls A0 c0 l0 A1 c1 l1 t.f0 t.f1 t.f2 t.f3 _ W h0 hc0 h1 hc1 ?_
  unfold needs_two.f twoB
  have e1 : mn t.f1 t.f2 = min t.f1 t.f2 := by unfold mn; omega
  have e2 : mx t.f1 t.f2 = max t.f1 t.f2 := by unfold mx; omega
  rw [e1, e2]
  split
  · rename_i h; rw [decide_eq_true (show 0 ≤ min t.f1 t.f2 from h)]; rfl
  · rename_i h; rw [decide_eq_false (show ¬ 0 ≤ min t.f1 t.f2 from h)]; rfl
end Go.Proofs.Ytofgaeiihclokaa.P
