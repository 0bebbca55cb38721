/- Lemmas and contracts for the functions of one layer of the program, used by the law's proof. No conditions beyond those typed. -/
import Derived.Test.YtdphomiljkclbaaDoorLexB
namespace Go.Proofs.YtdphomiljkclbaaDoor
set_option linter.unusedVariables false
set_option linter.unusedSimpArgs false
open Go.RowKit Go.Proofs.YtdphomiljkclbaaDoorW.PrintWords Go.Proofs.YtdphomiljkclbaaDoorW.PrintLast Go.Proofs.YtdphomiljkclbaaDoorW.PrintMore Go.Proofs.YtdphomiljkclbaaDoor.P

theorem runE_ge (p : Int → Bool) (s : ByteArray) (i : Nat) : i ≤ runE p s i := by
  unfold runE
  generalize s.size - i = n
  induction n generalizing i with
  | zero => exact Nat.le_refl _
  | succ n ih =>
    simp only [runN]
    split
    · have := ih (i + 1); omega
    · exact Nat.le_refl _
theorem runE_le (p : Int → Bool) (s : ByteArray) (i : Nat) (hi : i ≤ s.size) : runE p s i ≤ s.size := by
  unfold runE
  generalize s.size - i = n
  induction n generalizing i with
  | zero => exact hi
  | succ n ih =>
    simp only [runN]
    split
    · rename_i h
      exact ih (i + 1) (by omega)
    · exact hi
theorem runE_all (p : Int → Bool) (s : ByteArray) (i : Nat) (k : Nat) (h1 : i ≤ k) (h2 : k < runE p s i) : p (bt s k) = true := by
  unfold runE at h2
  generalize s.size - i = n at h2
  induction n generalizing i with
  | zero => simp only [runN] at h2; omega
  | succ n ih =>
    simp only [runN] at h2
    split at h2
    · rename_i h
      rcases Nat.lt_or_ge i k with h3 | h3
      · exact ih (i + 1) (by omega) h2
      · obtain rfl : i = k := by omega
        exact h.2
    · omega
theorem runE_end (p : Int → Bool) (s : ByteArray) (i : Nat) (h : runE p s i < s.size) : p (bt s (runE p s i : Nat)) = false := by
  unfold runE at h ⊢
  generalize hn : s.size - i = n at h ⊢
  induction n generalizing i with
  | zero => simp only [runN] at h; omega
  | succ n ih =>
    simp only [runN] at h ⊢
    split
    · rename_i h3
      rw [if_pos h3] at h
      exact ih (i + 1) (by omega) h
    · rename_i h3
      rw [if_neg h3] at h
      cases hp : p (bt s i)
      · rfl
      · exact absurd ⟨h, hp⟩ h3
theorem runE_pos {p : Int → Bool} {s : ByteArray} {i : Nat} (h : i < s.size) (hp : p (bt s i) = true) : i < runE p s i := by
  rw [runE_step h hp]
  exact runE_ge p s (i + 1)

theorem bcell {W w1 : World} (hb : Below W.heap.size W w1) : (∀ b o, b < W.heap.size → w1.cell? ⟨b, o, none⟩ = W.cell? ⟨b, o, none⟩) ∧ (∀ b o, b < W.heap.size → w1.frozen? ⟨b, o, none⟩ = W.frozen? ⟨b, o, none⟩) :=
  ⟨fun b o h => hb.cell (p := ⟨b, o, none⟩) h, fun b o h => hb.frozen (p := ⟨b, o, none⟩) h⟩
theorem below_two {w w1 : World} {a b : Obj} (h : Below ((w.alloc a).alloc b).heap.size ((w.alloc a).alloc b) w1) : Below w.heap.size w w1 :=
  (((Below.refl w.heap.size w).alloc (Nat.le_refl _) a).alloc (by simp) b).trans (h.mono (by simp; omega))
theorem below_set6 {w w1 : World} {n : Nat} (h : Below n w w1) {b1 o1 b2 o2 b3 o3 b4 o4 b5 o5 b6 o6 : Nat} {v1 v2 v3 v4 v5 v6 : Value} (h1 : n ≤ b1 := by omega) (h2 : n ≤ b2 := by omega) (h3 : n ≤ b3 := by omega) (h4 : n ≤ b4 := by omega) (h5 : n ≤ b5 := by omega) (h6 : n ≤ b6 := by omega) :
    Below n w ((((((w1.setCell ⟨b1, o1, none⟩ v1).setCell ⟨b2, o2, none⟩ v2).setCell ⟨b3, o3, none⟩ v3).setCell ⟨b4, o4, none⟩ v4).setCell ⟨b5, o5, none⟩ v5).setCell ⟨b6, o6, none⟩ v6) :=
  ((((((h.setCell (p := ⟨b1, o1, none⟩) h1 _).setCell (p := ⟨b2, o2, none⟩) h2 _).setCell (p := ⟨b3, o3, none⟩) h3 _).setCell (p := ⟨b4, o4, none⟩) h4 _).setCell (p := ⟨b5, o5, none⟩) h5 _).setCell (p := ⟨b6, o6, none⟩) h6 _)
theorem blk_two {w w1 : World} {a b : Obj} (h : Below ((w.alloc a).alloc b).heap.size ((w.alloc a).alloc b) w1) : w1.heap[w.heap.size]? = some a := by
  rw [h.block w.heap.size (by simp; omega)]
  exact blk_alloc (blk_new w a) b
theorem blk_set6 {w1 : World} {g : Nat} {t : TypeId} {a b c d x y p0 p1 p2 p3 : Value} (h : w1.heap[g]? = some (.cells #[a, b, c, d] t (0, 0))) :
    ((((((w1.setCell ⟨g + 1, 2, none⟩ x).setCell ⟨g + 1, 1, none⟩ y).setCell ⟨g, 0, none⟩ p0).setCell ⟨g, 1, none⟩ p1).setCell ⟨g, 2, none⟩ p2).setCell ⟨g, 3, none⟩ p3).heap[g]? = some (.cells #[p0, p1, p2, p3] t (0, 0)) := by
  have h1 := blk_far h (p := ⟨g + 1, 2, none⟩) (by simp) x
  have h2 := blk_far h1 (p := ⟨g + 1, 1, none⟩) (by simp) y
  have h6 := blk_set (blk_set (blk_set (blk_set h2 0 p0) 1 p1) 2 p2) 3 p3
  simpa using h6
theorem let_inn {c : Int} (h : isLet c = true) : isInn c = true := by simp [isInn, h]
theorem dig_inn {c : Int} (h : isDig c = true) : isInn c = true := by simp [isInn, h]
theorem let_not {c : Int} (h : isLet c = true) : isDig c = false ∧ (c == 59) = false := by
  simp only [isLet, isDig, Bool.and_eq_true, decide_eq_true_eq, beq_eq_false_iff_ne] at *
  constructor
  · simp; omega
  · omega
theorem dig_not {c : Int} (h : isDig c = true) : isLet c = false ∧ (c == 59) = false := by
  simp only [isLet, isDig, Bool.and_eq_true, decide_eq_true_eq, beq_eq_false_iff_ne] at *
  constructor
  · simp; omega
  · omega

def tokAt (kd : Int) (s : ByteArray) (i j : Nat) (v : Int) : S47 := ⟨kd, s.extract i j, v, i⟩
abbrev tokV (t : S47) : Value := .agg #[.int .i64 t.f0, .string t.f1, .int .i64 t.f2, .int .i64 t.f3]

set_option maxHeartbeats 400000 in
theorem one_sign (s : ByteArray) (i : Nat) (hi : i < s.size) (hs : s.size ≤ 140737488351232) (hc : bt s i = 59) (w : World) :
    Calls Tryd.prog 31 #[.string s, .int .i64 i] w fun e w' => e = .returned (.tuple #[tokV (tokAt 3 s i (i + 1) 0), .bool true]) ∧ Below w.heap.size w w' := by
  have hu := Tryd.underlying47
  have hb : ((s[i].toNat : Nat) : Int) = 59 := by rw [← hc]; simp [bt, hi]
  clear hc
  go_enter Tryd.func31, Tryd.ntmps31
  go_wp2
  exact bodyPost_ret (v := .tuple #[.agg #[.int .i64 3, .string (s.extract i (i + 1)), .int .i64 0, .int .i64 i], .bool true]) (by simp [results, Tryd.results31, go_sem]) rfl ⟨rfl, ((Below.refl _ _).alloc (Nat.le_refl _) _).alloc (by simp) _⟩
set_option maxHeartbeats 400000 in
theorem one_other (s : ByteArray) (i : Nat) (hi : i < s.size) (hs : s.size ≤ 140737488351232) (h1 : (bt s i == 59) = false) (h2 : isLet (bt s i) = false) (h3 : isDig (bt s i) = false) (w : World) :
    Calls Tryd.prog 31 #[.string s, .int .i64 i] w fun e w' => (∃ t, e = .returned (.tuple #[tokV t, .bool false])) ∧ Below w.heap.size w w' := by
  have hu := Tryd.underlying47
  have k59 : ((((⟨#[59]⟩ : ByteArray)[0]'(by decide)).toNat : Nat) : Int) = 59 := rfl
  have hb : ((s[i].toNat : Nat) : Int) = bt s i := by simp [bt, hi]
  go_enter Tryd.func31, Tryd.ntmps31
  go_wp2_with (first | (go_at_call 33; refine (letter_any _ _).mono ?_; rintro e w' ⟨rfl, rfl⟩) | (go_at_call 39; refine (digit_any _ _).mono ?_; rintro e w' ⟨rfl, rfl⟩))
  exact bodyPost_ret (v := .tuple #[.agg #[.int .i64 0, .string (s.extract i (i + 1)), .int .i64 0, .int .i64 i], .bool false]) (by simp [results, Tryd.results31, go_sem]) rfl ⟨⟨⟨0, s.extract i (i + 1), 0, i⟩, rfl⟩, ((Below.refl _ _).alloc (Nat.le_refl _) _).alloc (by simp) _⟩
set_option maxHeartbeats 400000 in
theorem one_letter (s : ByteArray) (i : Nat) (hi : i < s.size) (hs : s.size ≤ 140737488351232) (h2 : isLet (bt s i) = true) (w : World) :
    Calls Tryd.prog 31 #[.string s, .int .i64 i] w fun e w' => e = .returned (.tuple #[tokV (tokAt 1 s i (runE isInn s i) 0), .bool (decide (runE isInn s i - i ≤ 20))]) ∧ Below w.heap.size w w' := by
  have hu := Tryd.underlying47
  have k59 : ((((⟨#[59]⟩ : ByteArray)[0]'(by decide)).toNat : Nat) : Int) = 59 := rfl
  have hb : ((s[i].toNat : Nat) : Int) = bt s i := by simp [bt, hi]
  have h1 := (let_not h2).2
  have h5 := runE_ge isInn s i
  have h6 := runE_le isInn s i (by omega)
  go_enter Tryd.func31, Tryd.ntmps31
  go_wp2_with (first | (go_at_call 34; refine (run_inner _ _ (by omega) (by omega) _).mono ?_; rintro e w' ⟨rfl, rfl⟩) | (go_at_call 33; refine (letter_any _ _).mono ?_; rintro e w' ⟨rfl, rfl⟩) | (go_at_call 39; refine (digit_any _ _).mono ?_; rintro e w' ⟨rfl, rfl⟩))
  have h7 : decide ((runE isInn s i : Int) - i ≤ 20) = decide (runE isInn s i - i ≤ 20) := by rw [decide_eq_decide]; omega
  rw [h7]
  exact bodyPost_ret (v := .tuple #[.agg #[.int .i64 1, .string (s.extract i (runE isInn s i)), .int .i64 0, .int .i64 i], .bool (decide (runE isInn s i - i ≤ 20))]) (by simp [results, Tryd.results31, go_sem]) rfl ⟨rfl, ((Below.refl _ _).alloc (Nat.le_refl _) _).alloc (by simp) _⟩

theorem bt_extract (s : ByteArray) (i j k : Nat) (hj : j ≤ s.size) (hk : k < j - i) : bt (s.extract i j) k = bt s ((i + k : Nat) : Int) := by
  have h1 : k < (s.extract i j).size := by rw [ByteArray.size_extract]; omega
  have h2 : i + k < s.size := by omega
  simp only [bt, Int.toNat_natCast]
  rw [dif_pos h1, dif_pos h2]
  rw [ByteArray.getElem_extract]
def numEnd (s : ByteArray) (i : Nat) : Bool := decide (runE isDig s i < s.size) && isInn (bt s (runE isDig s i : Nat))
set_option maxHeartbeats 400000 in
theorem one_digit (s : ByteArray) (i : Nat) (hi : i < s.size) (hs : s.size ≤ 140737488351232) (h3 : isDig (bt s i) = true) (w : World) :
    Calls Tryd.prog 31 #[.string s, .int .i64 i] w fun e w' => e = .returned (.tuple #[tokV (tokAt 2 s i (runE isDig s i) (numV (s.extract i (runE isDig s i)))), .bool (numOk (s.extract i (runE isDig s i)) && !numEnd s i)]) ∧ Below w.heap.size w w' := by
  have hu := Tryd.underlying47
  have k59 : ((((⟨#[59]⟩ : ByteArray)[0]'(by decide)).toNat : Nat) : Int) = 59 := rfl
  have hb : ((s[i].toNat : Nat) : Int) = bt s i := by simp [bt, hi]
  obtain ⟨h2, h1⟩ := dig_not h3
  have h5 := runE_pos hi h3
  have h6 := runE_le isDig s i (by omega)
  have hall := Lib.hid (fun k => runE_all isDig s i k)
  have hrun := Lib.hid (run_digit s i (by omega) (by omega))
  have HD : Hid (numEnd s i = (decide (runE isDig s i < s.size) && isInn (bt s (runE isDig s i : Nat)))) := rfl
  generalize runE isDig s i = j at *
  have hz : (s.extract i j).size = j - i := by rw [ByteArray.size_extract]; omega
  have hnum := Lib.hid (number_any (s.extract i j) (by omega) (by omega) (fun k hk => by rw [bt_extract s i j k h6 (by omega)]; exact hall.out _ (by omega) (by omega)))
  clear hz
  by_cases hlt : j < s.size
  · have hbj : ((s[j].toNat : Nat) : Int) = bt s j := by simp [bt, hlt]
    cases hin : isInn (bt s j)
    all_goals
      have HE := Lib.hid HD.out
      rw [hin] at HE
      go_enter Tryd.func31, Tryd.ntmps31
      go_wp2_with (first | (go_at_call 34; refine (hrun.out _).mono ?_; rintro e w' ⟨rfl, rfl⟩) | (go_at_call 33; refine (letter_any _ _).mono ?_; rintro e w' ⟨rfl, rfl⟩) | (go_at_call 39; refine (digit_any _ _).mono ?_; rintro e w' ⟨rfl, rfl⟩) | (go_at_call 40; refine (hnum.out _).mono ?_; rintro e w' ⟨rfl, hb1⟩; obtain ⟨hbc, hbf⟩ := bcell hb1; have hz : w.heap.size + 1 < w'.heap.size := (by have := hb1.size; simp at this; omega); have HB1 := Lib.hid hb1; clear hb1) | (go_at_call 35; refine (inner_any _ _).mono ?_; rintro e w' ⟨rfl, rfl⟩))
      exact bodyPost_ret (results_ct rfl _ _ w.heap.size 47 #[.int .i64 2, .string (s.extract i j), .int .i64 (numV (s.extract i j)), .int .i64 i] (0, 0) _ rfl (blk_set6 (blk_two HB1.out)) hu rfl (by kernel_rfl)) rfl ⟨by rw [HE.out]; simp [tokV, tokAt, hlt, hin], below_set6 (below_two HB1.out)⟩
  · have hin : True := trivial
    have HE := Lib.hid HD.out
    go_enter Tryd.func31, Tryd.ntmps31
    go_wp2_with (first | (go_at_call 34; refine (hrun.out _).mono ?_; rintro e w' ⟨rfl, rfl⟩) | (go_at_call 33; refine (letter_any _ _).mono ?_; rintro e w' ⟨rfl, rfl⟩) | (go_at_call 39; refine (digit_any _ _).mono ?_; rintro e w' ⟨rfl, rfl⟩) | (go_at_call 40; refine (hnum.out _).mono ?_; rintro e w' ⟨rfl, hb1⟩; obtain ⟨hbc, hbf⟩ := bcell hb1; have hz : w.heap.size + 1 < w'.heap.size := (by have := hb1.size; simp at this; omega); have HB1 := Lib.hid hb1; clear hb1) | (go_at_call 35; refine (inner_any _ _).mono ?_; rintro e w' ⟨rfl, rfl⟩))
    exact bodyPost_ret (results_ct rfl _ _ w.heap.size 47 #[.int .i64 2, .string (s.extract i j), .int .i64 (numV (s.extract i j)), .int .i64 i] (0, 0) _ rfl (blk_set6 (blk_two HB1.out)) hu rfl (by kernel_rfl)) rfl ⟨by rw [HE.out]; simp [tokV, tokAt, hlt, hin], below_set6 (below_two HB1.out)⟩
end Go.Proofs.YtdphomiljkclbaaDoor
