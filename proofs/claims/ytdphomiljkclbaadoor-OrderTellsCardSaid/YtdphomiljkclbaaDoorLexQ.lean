/- What decides whether digits are a number, in the reference's own terms. No conditions beyond those typed. -/
import Derived.Test.YtdphomiljkclbaaDoorLexU
namespace Go.Proofs.YtdphomiljkclbaaDoor
set_option linter.unusedVariables false
set_option linter.unusedSimpArgs false
open Go.RowKit Go.Proofs.YtdphomiljkclbaaDoorW.PrintWords Go.Proofs.YtdphomiljkclbaaDoor.P

def kindR (c : Int) : Int := if isLet c then 1 else if isDig c then 2 else if c == 95 then 3 else if c == 59 then 4 else if gap c then 5 else 0
theorem kindR_inn {c : Int} (h : isInn c = true) : kindR c = 1 ∨ kindR c = 2 ∨ kindR c = 3 := by
  unfold kindR
  unfold isInn at h
  cases h1 : isLet c <;> cases h2 : isDig c <;> simp_all
theorem kindR_not {c : Int} (h : isInn c = false) : kindR c = 0 ∨ kindR c = 4 ∨ kindR c = 5 := by
  unfold kindR
  unfold isInn at h
  cases h1 : isLet c <;> cases h2 : isDig c <;> simp_all
  cases h3 : (c == 59) <;> cases h4 : gap c <;> simp_all
theorem kindR_all (c : Int) : (kindR c = 0 ∧ gap c = false ∧ isInn c = false ∧ (c == 59) = false) ∨ (kindR c = 1 ∧ isLet c = true) ∨ (kindR c = 2 ∧ isDig c = true) ∨ (kindR c = 3 ∧ gap c = false ∧ isLet c = false ∧ isDig c = false ∧ (c == 59) = false) ∨ (kindR c = 4 ∧ (c == 59) = true ∧ gap c = false) ∨ (kindR c = 5 ∧ gap c = true) := by
  unfold kindR
  cases h1 : isLet c
  · cases h2 : isDig c
    · cases h3 : (c == 95)
      · cases h4 : (c == 59)
        · cases h5 : gap c
          · left; simp [isInn, h1, h2, h3]
          · right; right; right; right; right; simp
        · right; right; right; right; left
          have : c = 59 := by simpa using h4
          subst this
          simp [gap]
      · right; right; right; left
        have : c = 95 := by simpa using h3
        subst this
        simp [gap]
    · right; right; left; simp
  · right; left; simp
theorem kindR_dig {c : Int} (h : isDig c = true) : kindR c = 2 := by unfold kindR; simp [h, (dig_not h).1]
theorem kindR_two {c : Int} (h : isDig c = false) : kindR c ≠ 2 := by
  unfold kindR
  rw [h]
  cases isLet c <;> cases (c == 95) <;> cases (c == 59) <;> cases gap c <;> simp

theorem okS_gap {s : ByteArray} {i : Nat} (h : isLet (bt s i) = false) (h2 : isDig (bt s i) = false) (h3 : (bt s i == 59) = false) : okS s i = false := by unfold okS; simp [h, h2, h3]
theorem okS_let {s : ByteArray} {i : Nat} (h : isLet (bt s i) = true) : okS s i = decide (runE isInn s i - i ≤ 20) ∧ endS s i = runE isInn s i ∧ tokS s i = tokAt 1 s i (runE isInn s i) 0 := by
  have h2 := let_not h
  refine ⟨by unfold okS; simp [h, h2.2], by unfold endS; simp [h, h2.2], by unfold tokS endS; simp [h, h2.2]⟩
theorem okS_dig {s : ByteArray} {i : Nat} (h : isDig (bt s i) = true) : okS s i = (numOk (s.extract i (runE isDig s i)) && !numEnd s i) ∧ endS s i = runE isDig s i ∧ tokS s i = tokAt 2 s i (runE isDig s i) (numV (s.extract i (runE isDig s i))) := by
  have h2 := dig_not h
  refine ⟨by unfold okS; simp [h, h2.1, h2.2], by unfold endS; simp [h2.1, h2.2], by unfold tokS endS; simp [h2.1, h2.2]⟩
theorem okS_sign {s : ByteArray} {i : Nat} (h : (bt s i == 59) = true) : okS s i = true ∧ endS s i = i + 1 ∧ tokS s i = tokAt 3 s i (i + 1) 0 := by
  refine ⟨by unfold okS; simp [h], by unfold endS; simp [h], by unfold tokS endS; simp [h]⟩
/-- As far as digits go, so far the run of digits goes at least. -/
theorem runE_far {p : Int → Bool} {s : ByteArray} {i : Nat} : ∀ (n j : Nat), j - i = n → i ≤ j → j ≤ s.size → (∀ m : Nat, i ≤ m → m < j → p (bt s m) = true) → runE p s i = runE p s j := by
  intro n
  induction n generalizing i with
  | zero => intro j h1 h2 h3 h; rw [show i = j by omega]
  | succ n ih =>
    intro j h1 h2 h3 h
    rw [runE_step (by omega) (h i (Nat.le_refl _) (by omega))]
    exact ih j (by omega) (by omega) h3 (fun m a b => h m (by omega) b)
theorem numTo_eq {s t : ByteArray} : ∀ n : Nat, (∀ k : Nat, k < n → bt s k = bt t k) → numTo s n = numTo t n
  | 0, _ => rfl
  | n + 1, h => by simp only [numTo]; rw [numTo_eq n (fun k hk => h k (by omega)), h n (by omega)]
theorem bad_kind {s : ByteArray} {i j : Nat} (hi : i < s.size) (hd : isDig (bt s i) = true) (hij : i ≤ j) (hj : j < runE isInn s i) (hall : ∀ m : Nat, i ≤ m → m < j → isDig (bt s m) = true) (hn : isDig (bt s j) = false) : okS s i = false := by
  have hle := runE_le isInn s i (by omega)
  have he : runE isDig s i = j := by
    rw [runE_far (p := isDig) _ j rfl hij (by omega) hall]
    exact runE_stop (by rintro ⟨a, b⟩; rw [hn] at b; cases b)
  have hin := runE_all isInn s i j hij hj
  rw [(okS_dig hd).1]
  unfold numEnd
  rw [he, hin]
  simp; omega
theorem bad_zero {s : ByteArray} {i j : Nat} (hi : i < s.size) (hd : isDig (bt s i) = true) (hij : i ≤ j) (hj : j < runE isInn s i) (hall : ∀ m : Nat, i ≤ m → m < j → isDig (bt s m) = true) (h0 : bt s i = 48) (hgt : i < j) : okS s i = false := by
  have hle := runE_le isInn s i (by omega)
  have hg := runE_pos hi hd
  have hle2 := runE_le isDig s i (by omega)
  rw [(okS_dig hd).1]
  rcases Nat.lt_or_ge (runE isDig s i) (runE isInn s i) with h1 | h1
  · have hin := runE_all isInn s i (runE isDig s i) (by omega) h1
    unfold numEnd
    rw [hin]
    simp; omega
  · have hb := bt_extract s i (runE isDig s i) 0 (by omega) (by omega)
    rw [Nat.add_zero, h0] at hb
    have hz : (s.extract i (runE isDig s i)).size ≠ 1 := by rw [ByteArray.size_extract]; omega
    have hb' : bt (s.extract i (runE isDig s i)) 0 = 48 := hb
    have hno : numOk (s.extract i (runE isDig s i)) = false := by
      unfold numOk
      rw [hb', beq_eq_false_iff_ne.2 hz]
      simp
    rw [hno]; rfl
theorem bad_great {s : ByteArray} {i j : Nat} (hi : i < s.size) (hd : isDig (bt s i) = true) (hij : i ≤ j) (hj : j < runE isInn s i) (hall : ∀ m : Nat, i ≤ m → m < j → isDig (bt s m) = true) (hv : 1048576 < numTo (s.extract i (runE isInn s i)) (j - i)) : okS s i = false := by
  have hle := runE_le isInn s i (by omega)
  have hg := runE_pos hi hd
  have hle2 := runE_le isDig s i (by omega)
  have hjd : j ≤ runE isDig s i := by
    rw [runE_far (p := isDig) _ j rfl hij (by omega) hall]
    exact runE_ge _ _ _
  have he : numTo (s.extract i (runE isInn s i)) (j - i) = numTo (s.extract i (runE isDig s i)) (j - i) := by
    refine numTo_eq _ (fun k hk => ?_)
    rw [bt_extract s i _ k hle (by omega), bt_extract s i _ k hle2 (by omega)]
  have hz : (s.extract i (runE isDig s i)).size = runE isDig s i - i := by rw [ByteArray.size_extract]; omega
  have hm := (numTo_mono (s := s.extract i (runE isDig s i)) (fun k hk => by
    rw [bt_extract s i _ k hle2 (by omega)]
    exact runE_all isDig s i (i + k) (by omega) (by omega)) _ (Nat.le_refl _)).2 (j - i) (by omega)
  rw [(okS_dig hd).1]
  have hno : numOk (s.extract i (runE isDig s i)) = false := by
    unfold numOk
    rw [decide_eq_false (by omega : ¬ numTo (s.extract i (runE isDig s i)) (s.extract i (runE isDig s i)).size ≤ 1048576)]
    rfl
  rw [hno]; rfl
/-- All digits, none ahead of a number, not too great. -/
theorem good_num {s : ByteArray} {i : Nat} (hi : i < s.size) (hd : isDig (bt s i) = true) (hall : ∀ m : Nat, i ≤ m → m < runE isInn s i → isDig (bt s m) = true) (h0 : bt s i = 48 → runE isInn s i ≤ i + 1) :
    runE isDig s i = runE isInn s i ∧ numTo (s.extract i (runE isInn s i)) (runE isInn s i - i) = numTo (s.extract i (runE isInn s i)) (s.extract i (runE isInn s i)).size ∧ okS s i = decide (numTo (s.extract i (runE isInn s i)) (runE isInn s i - i) ≤ 1048576) := by
  have hle := runE_le isInn s i (by omega)
  have hg := runE_pos hi hd
  have hgi := runE_pos hi (dig_inn hd)
  have hle2 := runE_le isDig s i (by omega)
  have he : runE isDig s i = runE isInn s i := by
    have h1 := runE_far (p := isDig) (s := s) (i := i) _ (runE isInn s i) rfl (by omega) hle hall
    rw [h1]
    refine runE_stop ?_
    rintro ⟨a, b⟩
    have := runE_end isInn s i a
    rw [dig_inn b] at this
    cases this
  have hz : (s.extract i (runE isInn s i)).size = runE isInn s i - i := by rw [ByteArray.size_extract]; omega
  refine ⟨he, by rw [hz], ?_⟩
  rw [(okS_dig hd).1, he]
  have hn : numEnd s i = false := by
    unfold numEnd
    rw [he]
    rcases Nat.lt_or_ge (runE isInn s i) s.size with h | h
    · rw [runE_end isInn s i h]; simp
    · have : ¬ runE isInn s i < s.size := by omega
      simp [this]
  have hb := bt_extract s i (runE isInn s i) 0 hle (by omega)
  rw [Nat.add_zero] at hb
  have hb' : bt (s.extract i (runE isInn s i)) 0 = bt s i := hb
  rw [hn]
  unfold numOk
  rw [hb', hz]
  by_cases h48 : bt s i = 48
  · have h1 : runE isInn s i - i = 1 := by have := h0 h48; omega
    simp [h1]
  · simp [h48]
end Go.Proofs.YtdphomiljkclbaaDoor
