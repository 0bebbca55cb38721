/- Lemmas and contracts for the functions of one layer of the program, used by the law's proof. No conditions beyond those typed. -/
import Derived.Test.YtaempeleddamlaaLexU
import Derived.Test.YtaempeleddamlaaLexZ
namespace Go.Proofs.Ytaempeleddamlaa.Pure
set_option linter.unusedVariables false
set_option linter.unusedSimpArgs false
open Go.RowKit Go.Proofs.Ytaempeleddamlaa.P Go.Proofs.YtaempeleddamlaaW.PrintWords Go.Proofs.YtaempeleddamlaaW.PrintLast Go.Proofs.Ytaempeleddamlaa

theorem lexR_ok {s : ByteArray} {l : List S35} (h : lexAt s 0 0 = .inl l) : lexR s = (l, 0, 0) := by unfold lexR; rw [h]
theorem lexR_err {s : ByteArray} {p : Nat} {e : Int} (h : lexAt s 0 0 = .inr (p, e)) : lexR s = ([], (p : Int), e) := by unfold lexR; rw [h]
theorem bt_app_left (s t : ByteArray) (k : Nat) (h : k < s.size) : bt (s ++ t) k = bt s k := by
  simp only [bt, Int.toNat_natCast]
  rw [dif_pos h, dif_pos (by rw [ByteArray.size_append]; omega)]
  rw [ByteArray.getElem_append_left h]
theorem bt_app_right (s t : ByteArray) (k : Nat) (h : k < t.size) : bt (s ++ t) (s.size + k : Nat) = bt t k := by
  simp only [bt, Int.toNat_natCast]
  rw [dif_pos h, dif_pos (by rw [ByteArray.size_append]; omega)]
  rw [ByteArray.getElem_append_right (by omega)]
  simp

theorem _root_.Go.Proofs.Ytaempeleddamlaa.Pre.many {s : ByteArray} {i q : Nat} {l : List S35} (h : Pre s i l q) : i + l.length ≤ q := by
  induction h with
  | nil => simp
  | cons p h0 h1 hg hng hok h ih => have := endS_gt s p h1 hok; simp only [List.length_cons]; omega
/-- What leads up to a place is tokens of the text up to there. -/
theorem pre_cut {s : ByteArray} {i q : Nat} {l : List S35} (h : Pre s i l q) (m : Nat) (hq : q ≤ m) (hm : m ≤ s.size) (hg : ∀ j : Nat, q ≤ j → j < m → gap (bt s j) = true) : Toks (s.extract 0 m) i l := by
  have hsz : (s.extract 0 m).size = m := by rw [ByteArray.size_extract]; omega
  have hbt : ∀ j : Nat, j < m → bt (s.extract 0 m) j = bt s j := fun j hj => by
    have := bt_extract s 0 m j hm (by omega)
    simpa using this
  induction h with
  | nil => exact .nil (fun j h1 h2 => by rw [hbt j (by omega)]; exact hg j h1 (by omega))
  | @cons i p l q h0 h1 hgp hng hok h ih =>
    have hle := h.le
    have hgt := endS_gt s p h1 hok
    have hmv := tok_move (s := s) (t := s.extract 0 m) (i := p) (j := p) h1 hok (by omega) (fun k hk => hbt (p + k) (by omega)) (by
      rcases tok_end h1 hok with h2 | h2
      · exact .inl h2.1
      · right
        rcases Nat.lt_or_ge (endS s p) m with h3 | h3
        · right
          rw [show p + (endS s p - p) = endS s p by omega, hbt _ h3]
          rcases h2 with h2 | h2
          · omega
          · exact h2
        · left; omega)
    rw [show p + (endS s p - p) = endS s p by omega] at hmv
    have htk : tokS s p = tokS (s.extract 0 m) p := by
      rw [hmv.2.2]
      have := (tokS_text s p).2
      unfold atPut
      rw [← this]
    rw [htk]
    refine .cons p h0 (by omega) (fun j a b => by rw [hbt j (by omega)]; exact hgp j a b) (by rw [hbt p (by omega)]; exact hng) hmv.1 ?_
    rw [hmv.2.1]
    exact ih hq hg
theorem runE_app {p : Int → Bool} (h32 : p 32 = false) (s t : ByteArray) : ∀ (n i : Nat), s.size - i = n → i ≤ s.size → runE p ((s ++ ⟨#[32]⟩) ++ t) i = runE p s i := by
  have h32b : bt ((s ++ ⟨#[32]⟩) ++ t) (s.size : Nat) = 32 := by
    rw [bt_app_left _ _ _ (by rw [ByteArray.size_append]; show s.size < s.size + 1; omega)]
    have := bt_app_right s ⟨#[32]⟩ 0 (by show 0 < 1; omega)
    rw [Nat.add_zero] at this
    exact this.trans rfl
  intro n
  induction n with
  | zero =>
    intro i h1 h2
    obtain rfl : i = s.size := by omega
    rw [runE_stop (p := p) (s := s) (by rintro ⟨a, b⟩; omega)]
    exact runE_stop (by rintro ⟨a, b⟩; rw [h32b, h32] at b; cases b)
  | succ n ih =>
    intro i h1 h2
    have hb : bt ((s ++ ⟨#[32]⟩) ++ t) i = bt s i := by
      rw [bt_app_left _ _ _ (by rw [ByteArray.size_append]; omega), bt_app_left _ _ _ (by omega)]
    cases hp : p (bt s i)
    · rw [runE_stop (p := p) (s := s) (by rintro ⟨a, b⟩; rw [hp] at b; cases b)]
      exact runE_stop (by rintro ⟨a, b⟩; rw [hb, hp] at b; cases b)
    · rw [runE_step (p := p) (s := s) (by omega) hp, runE_step (p := p) (by rw [ByteArray.size_append, ByteArray.size_append]; omega) (by rw [hb]; exact hp)]
      exact ih (i + 1) (by omega) (by omega)
theorem okS_app (s t : ByteArray) (i : Nat) (hi : i < s.size) : okS ((s ++ ⟨#[32]⟩) ++ t) i = okS s i ∧ endS ((s ++ ⟨#[32]⟩) ++ t) i = endS s i := by
  have hsz : ((s ++ ⟨#[32]⟩) ++ t).size = s.size + 1 + t.size := by rw [ByteArray.size_append, ByteArray.size_append]; rfl
  have hb : ∀ j : Nat, j < s.size → bt ((s ++ ⟨#[32]⟩) ++ t) j = bt s j := fun j hj => by
    rw [bt_app_left _ _ _ (by rw [ByteArray.size_append]; omega), bt_app_left _ _ _ (by omega)]
  have h32b : bt ((s ++ ⟨#[32]⟩) ++ t) (s.size : Nat) = 32 := by
    rw [bt_app_left _ _ _ (by rw [ByteArray.size_append]; show s.size < s.size + 1; omega)]
    have := bt_app_right s ⟨#[32]⟩ 0 (by show 0 < 1; omega)
    rw [Nat.add_zero] at this
    exact this.trans rfl
  have hr1 := runE_app (p := isInn) (by decide) s t _ i rfl (by omega)
  have hr2 := runE_app (p := isDig) (by decide) s t _ i rfl (by omega)
  have hle := runE_le isDig s i (by omega)
  have hge := runE_ge isDig s i
  unfold okS endS
  rw [hb i hi, hr1, hr2]
  refine ⟨?_, rfl⟩
  have hx : ((s ++ ⟨#[32]⟩) ++ t).extract i (runE isDig s i) = s.extract i (runE isDig s i) := by
    have := extract_move (s := s) (t := (s ++ ⟨#[32]⟩) ++ t) (i := i) (j := i) (n := runE isDig s i - i) (by omega) (by omega) (fun k hk => hb (i + k) (by omega))
    rw [show i + (runE isDig s i - i) = runE isDig s i by omega] at this
    exact this
  have hn : numEnd ((s ++ ⟨#[32]⟩) ++ t) i = numEnd s i := by
    unfold numEnd
    rw [hr2]
    rcases Nat.lt_or_ge (runE isDig s i) s.size with h | h
    · rw [hb _ h]; simp [h]; omega
    · rw [show runE isDig s i = s.size by omega, h32b, show isInn 32 = false by decide]; simp
  rw [hx, hn]
theorem lexAt_app (s t : ByteArray) : ∀ f n i p e, s.size - i ≤ f → lexAt s n i = .inr (p, e) → lexAt ((s ++ ⟨#[32]⟩) ++ t) n i = .inr (p, e) := by
  have hsz : ((s ++ ⟨#[32]⟩) ++ t).size = s.size + 1 + t.size := by rw [ByteArray.size_append, ByteArray.size_append]; rfl
  have hb : ∀ j : Nat, j < s.size → bt ((s ++ ⟨#[32]⟩) ++ t) j = bt s j := fun j hj => by
    rw [bt_app_left _ _ _ (by rw [ByteArray.size_append]; omega), bt_app_left _ _ _ (by omega)]
  intro f
  induction f with
  | zero =>
    intro n i p e h he
    rw [lexAt_end (by omega)] at he
    cases he
  | succ f ih =>
    intro n i p e h he
    by_cases hi : i < s.size
    · rw [lexAt_step hi] at he
      rw [lexAt_step (by omega), hb i hi, (okS_app s t i hi).1, (okS_app s t i hi).2]
      split at he
      · rename_i hg; rw [if_pos hg]; exact ih _ _ _ _ (by omega) he
      · rename_i hg
        rw [if_neg hg]
        split at he
        · rename_i hok
          have hgt := endS_gt s i hi hok
          rw [if_pos hok]
          split at he
          · rename_i h5; rw [if_pos h5]; exact he
          · rename_i h5
            rw [if_neg h5]
            cases hx : lexAt s (n + 1) (endS s i) with
            | inl l' => rw [hx] at he; cases he
            | inr e' =>
              rw [hx] at he
              obtain ⟨p', e''⟩ := e'
              cases he
              rw [ih _ _ _ _ (by omega) hx]
        · rename_i hok; rw [if_neg hok]; exact he
    · rw [lexAt_end hi] at he
      cases he

end Go.Proofs.Ytaempeleddamlaa.Pure
