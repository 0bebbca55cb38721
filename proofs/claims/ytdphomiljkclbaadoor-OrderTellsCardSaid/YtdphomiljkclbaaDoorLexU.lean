/- Lemmas and contracts for the functions of one layer of the program, used by the law's proof. No conditions beyond those typed. -/
import Derived.Test.YtdphomiljkclbaaDoorLexD
namespace Go.Proofs.YtdphomiljkclbaaDoor
set_option linter.unusedVariables false
set_option linter.unusedSimpArgs false
open Go.RowKit Go.Proofs.YtdphomiljkclbaaDoorW.PrintWords Go.Proofs.YtdphomiljkclbaaDoor.P

def gap (c : Int) : Bool := c == 32 || c == 10
theorem gap_not {c : Int} (h : gap c = true) : isInn c = false ∧ isDig c = false ∧ isLet c = false := by
  simp only [gap, Bool.or_eq_true, beq_iff_eq] at h
  rcases h with rfl | rfl <;> decide

theorem lexAt_gaps {s : ByteArray} {n : Nat} : ∀ (d i p : Nat), p - i ≤ d → i ≤ p → p ≤ s.size → (∀ j : Nat, i ≤ j → j < p → gap (bt s j) = true) → lexAt s n i = lexAt s n p := by
  intro d
  induction d with
  | zero => intro i p h1 h2 h3 hg; rw [show i = p by omega]
  | succ d ih =>
    intro i p h1 h2 h3 hg
    rcases Nat.lt_or_ge i p with h | h
    · rw [lexAt_step (by omega), if_pos (show (bt s i == 32 || bt s i == 10) = true from hg i (by omega) h)]
      exact ih (i + 1) p (by omega) (by omega) h3 (fun j a b => hg j (by omega) b)
    · rw [show i = p by omega]

/-- Tokens from a place on, up to the end. -/
inductive Toks (s : ByteArray) : Nat → List S47 → Prop
  | nil {i : Nat} (h : ∀ j : Nat, i ≤ j → j < s.size → gap (bt s j) = true) : Toks s i []
  | cons {i : Nat} (p : Nat) {l : List S47} (h0 : i ≤ p) (h1 : p < s.size) (hg : ∀ j : Nat, i ≤ j → j < p → gap (bt s j) = true) (hng : gap (bt s p) = false) (hok : okS s p = true) (h : Toks s (endS s p) l) : Toks s i (tokS s p :: l)
/-- Tokens from a place on, up to another one. -/
inductive Pre (s : ByteArray) : Nat → List S47 → Nat → Prop
  | nil {i : Nat} : Pre s i [] i
  | cons {i : Nat} (p : Nat) {l : List S47} {q : Nat} (h0 : i ≤ p) (h1 : p < s.size) (hg : ∀ j : Nat, i ≤ j → j < p → gap (bt s j) = true) (hng : gap (bt s p) = false) (hok : okS s p = true) (h : Pre s (endS s p) l q) : Pre s i (tokS s p :: l) q

theorem gap_down {s : ByteArray} {i p : Nat} (h : gap (bt s i) = true) (hg : ∀ j : Nat, i + 1 ≤ j → j < p → gap (bt s j) = true) : ∀ j : Nat, i ≤ j → j < p → gap (bt s j) = true := by
  intro j h1 h2
  rcases Nat.lt_or_ge i j with h3 | h3
  · exact hg j (by omega) h2
  · rw [show j = i by omega]; exact h

theorem lexAt_toks {s : ByteArray} : ∀ f n i l, s.size - i ≤ f → lexAt s n i = .inl l → Toks s i l := by
  intro f
  induction f with
  | zero =>
    intro n i l h he
    rw [lexAt_end (by omega)] at he
    cases he
    exact .nil (fun j h1 h2 => by omega)
  | succ f ih =>
    intro n i l h he
    by_cases hi : i < s.size
    · rw [lexAt_step hi] at he
      split at he
      · rename_i hg
        have hg' : gap (bt s i) = true := hg
        have := ih _ _ _ (by omega) he
        cases this with
        | nil h => exact .nil (gap_down hg' h)
        | cons p h0 h1 hg hng hok h => exact .cons p (by omega) h1 (gap_down hg' hg) hng hok h
      · rename_i hng
        split at he
        · rename_i hok
          have := endS_gt s i hi hok
          split at he
          · cases he
          · cases hx : lexAt s (n + 1) (endS s i) with
            | inl l' =>
              rw [hx] at he
              cases he
              exact .cons i (Nat.le_refl _) hi (fun j a b => by omega) (by simpa [gap] using hng) hok (ih _ _ _ (by omega) hx)
            | inr e => rw [hx] at he; cases he
        · cases he
    · rw [lexAt_end hi] at he
      cases he
      exact .nil (fun j h1 h2 => by omega)
theorem Toks.ends {s : ByteArray} {i : Nat} {l : List S47} (h : Toks s i l) : ∀ n, n + l.length ≤ 5000 → lexAt s n i = .inl l := by
  induction h with
  | @nil i h =>
    intro n _
    rcases Nat.lt_or_ge s.size i with h1 | h1
    · exact lexAt_end (by omega)
    · rw [lexAt_gaps (s.size - i) i s.size (Nat.le_refl _) h1 (Nat.le_refl _) h, lexAt_end (by omega)]
  | @cons i p l h0 h1 hg hng hok h ih =>
    intro n hn
    rw [lexAt_gaps (p - i) i p (Nat.le_refl _) h0 (by omega) hg, lexAt_step h1]
    have hng' : ¬ (bt s p == 32 || bt s p == 10) = true := by
      have : gap (bt s p) = (bt s p == 32 || bt s p == 10) := rfl
      rw [← this, hng]; simp
    simp only [List.length_cons] at hn
    rw [if_neg hng', if_pos hok, if_neg (by omega), ih (n + 1) (by omega)]
/-- How an error comes: tokens, gaps, and what is none. -/
theorem lexAt_err {s : ByteArray} : ∀ f n i p e, s.size - i ≤ f → n ≤ 5000 → lexAt s n i = .inr (p, e) →
    ∃ l q, Pre s i l q ∧ q ≤ p ∧ p < s.size ∧ (∀ j : Nat, q ≤ j → j < p → gap (bt s j) = true) ∧ gap (bt s p) = false ∧ n + l.length ≤ 5000 ∧ (e = 2 ∧ okS s p = false ∨ e = 4 ∧ okS s p = true ∧ n + l.length = 5000) := by
  intro f
  induction f with
  | zero =>
    intro n i p e h hn he
    rw [lexAt_end (by omega)] at he
    cases he
  | succ f ih =>
    intro n i p e h hn he
    by_cases hi : i < s.size
    · rw [lexAt_step hi] at he
      split at he
      · rename_i hg
        have hg' : gap (bt s i) = true := hg
        obtain ⟨l, q, hp, h1, h2, h3, h4, h5, h6⟩ := ih _ _ _ _ (by omega) hn he
        cases hp with
        | nil => exact ⟨[], i, .nil, by omega, h2, gap_down hg' h3, h4, h5, h6⟩
        | cons p' h0 h1' hg2 hng hok hp => exact ⟨_, q, .cons p' (by omega) h1' (gap_down hg' hg2) hng hok hp, h1, h2, h3, h4, h5, h6⟩
      · rename_i hng
        have hng' : gap (bt s i) = false := by simpa [gap] using hng
        split at he
        · rename_i hok
          have := endS_gt s i hi hok
          split at he
          · rename_i h5
            cases he
            exact ⟨[], i, .nil, Nat.le_refl _, hi, (fun j a b => by omega), hng', by simpa using hn, .inr ⟨rfl, hok, by simpa using h5⟩⟩
          · cases hx : lexAt s (n + 1) (endS s i) with
            | inl l' => rw [hx] at he; cases he
            | inr e' =>
              rw [hx] at he
              cases he
              obtain ⟨l, q, hp, h1, h2, h3, h4, h5, h6⟩ := ih _ _ _ _ (by omega) (by omega) hx
              exact ⟨tokS s i :: l, q, .cons i (Nat.le_refl _) hi (fun j a b => by omega) hng' hok hp, h1, h2, h3, h4, by simp only [List.length_cons]; omega, by simp only [List.length_cons]; rcases h6 with h6 | ⟨a, b, c⟩; exact .inl h6; exact .inr ⟨a, b, by omega⟩⟩
        · rename_i hok
          cases he
          exact ⟨[], i, .nil, Nat.le_refl _, hi, (fun j a b => by omega), hng', by simpa using hn, .inl ⟨rfl, by simpa using hok⟩⟩
    · rw [lexAt_end hi] at he
      cases he
theorem Pre.le {s : ByteArray} {i q : Nat} {l : List S47} (h : Pre s i l q) : i ≤ q := by
  induction h with
  | nil => exact Nat.le_refl _
  | cons p h0 h1 hg hng hok h ih => have := endS_gt s p h1 hok; omega

/-- A run of the same bytes that ends alike. -/
theorem runE_move {p : Int → Bool} {s t : ByteArray} : ∀ (n i j : Nat), runE p s i - i = n → i ≤ s.size → j + n ≤ t.size → (∀ k : Nat, k < n → bt t (j + k : Nat) = bt s (i + k : Nat)) → (j + n = t.size ∨ p (bt t (j + n : Nat)) = false) → runE p t j = j + n := by
  intro n
  induction n with
  | zero =>
    intro i j _ _ _ _ hend
    exact runE_stop (by rintro ⟨h1, h2⟩; rcases hend with h | h; omega; simp at h; rw [h] at h2; cases h2)
  | succ n ih =>
    intro i j hn hi hj hb hend
    have hlt : i < s.size := by
      have := runE_le p s i hi
      omega
    have hp : p (bt s i) = true := runE_all p s i i (Nat.le_refl _) (by omega)
    rw [runE_step (p := p) (s := t) (i := j) (by omega) (by have := hb 0 (by omega); simp only [Nat.add_zero] at this; rw [this]; exact hp)]
    have h1 := runE_step hlt hp
    rw [ih (i + 1) (j + 1) (by omega) (by omega) (by omega) (fun k hk => by have := hb (k + 1) (by omega); rw [show j + 1 + k = j + (k + 1) by omega, show i + 1 + k = i + (k + 1) by omega]; exact this) (by rw [show j + 1 + n = j + (n + 1) by omega]; exact hend)]
    omega
theorem bytes_ext {s t : ByteArray} (h : s.size = t.size) (hb : ∀ k : Nat, k < s.size → bt s k = bt t k) : s = t := by
  apply ByteArray.ext
  apply Array.ext
  · exact h
  · intro k h1 h2
    have h1' : k < s.size := h1
    have h2' : k < t.size := h2
    have h3 := hb k h1'
    simp only [bt, Int.toNat_natCast] at h3
    rw [dif_pos h1', dif_pos h2'] at h3
    apply UInt8.toNat_inj.1
    have h4 : (s[k]'h1').toNat = (t[k]'h2').toNat := by omega
    exact h4
theorem extract_move {s t : ByteArray} {i j n : Nat} (hi : i + n ≤ s.size) (hj : j + n ≤ t.size) (hb : ∀ k : Nat, k < n → bt t (j + k : Nat) = bt s (i + k : Nat)) : t.extract j (j + n) = s.extract i (i + n) := by
  apply bytes_ext
  · rw [ByteArray.size_extract, ByteArray.size_extract]; omega
  · intro k hk
    rw [ByteArray.size_extract] at hk
    rw [bt_extract t j (j + n) k (by omega) (by omega), bt_extract s i (i + n) k (by omega) (by omega)]
    exact hb k (by omega)
def atPut (t : S47) (q : Nat) : S47 := ⟨t.f0, t.f1, t.f2, q⟩
theorem atPut_tokAt (kd : Int) (s : ByteArray) (i j : Nat) (v : Int) (q : Nat) : atPut (tokAt kd s i j v) q = ⟨kd, s.extract i j, v, q⟩ := rfl
/-- A token, laid elsewhere. -/
theorem tok_move {s t : ByteArray} {i j : Nat} (hi : i < s.size) (hok : okS s i = true) (hj : j + (endS s i - i) ≤ t.size) (hb : ∀ k : Nat, k < endS s i - i → bt t (j + k : Nat) = bt s (i + k : Nat))
    (hend : (tokS s i).f0 = 3 ∨ j + (endS s i - i) = t.size ∨ isInn (bt t (j + (endS s i - i) : Nat)) = false) : okS t j = true ∧ endS t j = j + (endS s i - i) ∧ tokS t j = atPut (tokS s i) j := by
  have hgt := endS_gt s i hi hok
  have h0 : bt t j = bt s i := by have := hb 0 (by omega); simpa using this
  unfold okS at hok
  unfold okS tokS endS
  unfold tokS endS at hend
  unfold endS at hj hb hgt
  rw [h0]
  cases h1 : (bt s i == 59) <;> simp only [h1, if_true, if_false, Bool.false_eq_true] at hok hend hj hb hgt ⊢
  · cases h2 : isLet (bt s i) <;> simp only [h2, if_true, if_false, Bool.false_eq_true] at hok hend hj hb hgt ⊢
    · cases h3 : isDig (bt s i) <;> simp only [h3, if_true, if_false, Bool.false_eq_true] at hok hend hj hb hgt ⊢
      have hend' : j + (runE isDig s i - i) = t.size ∨ isInn (bt t (j + (runE isDig s i - i) : Nat)) = false := by
        rcases hend with h | h
        · simp [tokAt] at h
        · exact h
      have hr := runE_move (p := isDig) (s := s) (t := t) _ i j rfl (by omega) hj hb (hend'.imp id (fun h => by
        cases hd : isDig (bt t (j + (runE isDig s i - i) : Nat))
        · rfl
        · rw [dig_inn hd] at h; cases h))
      have hx := extract_move (s := s) (t := t) (i := i) (j := j) (n := runE isDig s i - i) (by omega) hj hb
      rw [show i + (runE isDig s i - i) = runE isDig s i by omega] at hx
      rw [hr, hx]
      refine ⟨?_, rfl, by rw [atPut_tokAt]; unfold tokAt; rw [hx]⟩
      simp only [Bool.and_eq_true] at hok ⊢
      refine ⟨hok.1, ?_⟩
      unfold numEnd
      rw [hr]
      rcases hend' with h | h
      · simp [h]
      · rw [h]; simp
    · have hend' : j + (runE isInn s i - i) = t.size ∨ isInn (bt t (j + (runE isInn s i - i) : Nat)) = false := by
        rcases hend with h | h
        · simp [tokAt] at h
        · exact h
      have hr := runE_move (p := isInn) (s := s) (t := t) _ i j rfl (by omega) hj hb hend'
      have hx := extract_move (s := s) (t := t) (i := i) (j := j) (n := runE isInn s i - i) (by omega) hj hb
      rw [show i + (runE isInn s i - i) = runE isInn s i by omega] at hx
      rw [hr]
      refine ⟨by simp at hok ⊢; omega, rfl, by rw [atPut_tokAt]; unfold tokAt; rw [hx]⟩
  · have hx := extract_move (s := s) (t := t) (i := i) (j := j) (n := i + 1 - i) (by omega) hj hb
    rw [show i + (i + 1 - i) = i + 1 by omega, show j + (i + 1 - i) = j + 1 by omega] at hx
    refine ⟨trivial, by omega, by rw [atPut_tokAt]; unfold tokAt; rw [hx]⟩
/-- Behind a word, or a number, there is nothing of its kind. -/
theorem tok_end {s : ByteArray} {i : Nat} (hi : i < s.size) (hok : okS s i = true) : (tokS s i).f0 = 3 ∧ (tokS s i).f1 = ⟨#[59]⟩ ∨ endS s i = s.size ∨ isInn (bt s (endS s i : Nat)) = false := by
  have hgt := endS_gt s i hi hok
  unfold okS at hok
  unfold tokS
  cases h1 : (bt s i == 59) <;> simp only [h1, if_true, if_false, Bool.false_eq_true] at hok ⊢
  · right
    cases h2 : isLet (bt s i) <;> simp only [h2, if_true, if_false, Bool.false_eq_true] at hok ⊢
    · cases h3 : isDig (bt s i) <;> simp only [h3, if_true, if_false, Bool.false_eq_true] at hok ⊢
      have he : endS s i = runE isDig s i := by unfold endS; simp [h1, h2]
      simp only [Bool.and_eq_true, Bool.not_eq_true'] at hok
      have h4 := hok.2
      unfold numEnd at h4
      rw [he]
      rw [he] at hgt
      rcases Nat.lt_or_ge (runE isDig s i) s.size with h5 | h5
      · right; simpa [h5] using h4
      · left; omega
    · have he : endS s i = runE isInn s i := by unfold endS; simp [h1, h2]
      rw [he]
      rw [he] at hgt
      rcases Nat.lt_or_ge (runE isInn s i) s.size with h5 | h5
      · right; exact runE_end isInn s i h5
      · left; omega
  · left
    refine ⟨rfl, ?_⟩
    have he : endS s i = i + 1 := by unfold endS; simp [h1]
    show s.extract i (endS s i) = _
    rw [he]
    apply bytes_ext
    · rw [ByteArray.size_extract]; show _ = 1; omega
    · intro k hk
      rw [ByteArray.size_extract] at hk
      rw [bt_extract s i (i + 1) k (by omega) (by omega)]
      obtain rfl : k = 0 := by omega
      rw [Nat.add_zero, show bt s i = 59 by simpa using h1]
      rfl
end Go.Proofs.YtdphomiljkclbaaDoor
