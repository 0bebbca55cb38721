/- Whatever the text: each token stands where it says, and between two of them there is nothing but what parts them. No conditions. -/
import Derived.Test.YtaempeleddamlaaP4
import Derived.Test.YtaempeleddamlaaLexV
namespace Go.Proofs.Ytaempeleddamlaa.Pure
set_option linter.unusedVariables false
set_option linter.unusedSimpArgs false
open Go.RowKit Go.Proofs.Ytaempeleddamlaa.P Go.Proofs.YtaempeleddamlaaW.PrintWords Go.Proofs.YtaempeleddamlaaW.PrintLast Go.Proofs.Ytaempeleddamlaa

theorem wrap_small {x : Int} (h0 : 0 ≤ x) (h1 : x ≤ 9223372036854775807) : wrap64 x = x := by unfold wrap64; omega
theorem toList_ne (t : ByteArray) (h : 0 < t.size) : (t.toList == ([] : List UInt8)) = false := by
  rw [ByteArray.toList_eq]
  have h2 := data_length t
  cases h3 : t.data.toList with
  | nil => rw [h3] at h2; simp at h2; omega
  | cons _ _ => rfl
theorem gap_or {c : Int} (h : gap c = true) : c = 32 ∨ c = 10 := by simpa [gap] using h
theorem places_l2 (s : ByteArray) (hs : s.size ≤ 140737488351232) : ∀ (d i k : Nat), s.size - i = d → (∀ j : Nat, i ≤ j → j < s.size → gap (bt s j) = true) → d < k → replevinlaw01_LexPlaces.l2 k s i = some true := by
  intro d
  induction d with
  | zero =>
    intro i k hd hg hk
    obtain ⟨k, rfl⟩ : ∃ m, k = m + 1 := ⟨k - 1, by omega⟩
    rw [replevinlaw01_LexPlaces.l2, if_neg (by omega)]
  | succ d ih =>
    intro i k hd hg hk
    obtain ⟨k, rfl⟩ : ∃ m, k = m + 1 := ⟨k - 1, by omega⟩
    have h := ih (i + 1) k (by omega) (fun j a b => hg j (by omega) b) (by omega)
    rw [replevinlaw01_LexPlaces.l2, if_pos (by omega), if_pos (by omega), wrap_small (by omega) (by omega)]
    rw [show ((i : Int) + 1) = ((i + 1 : Nat) : Int) by omega, h]
    rcases gap_or (hg i (Nat.le_refl _) (by omega)) with h1 | h1
    · rw [if_pos h1]
    · rw [if_neg (by omega), if_pos h1]
theorem places_l1 (s : ByteArray) (hs : s.size ≤ 140737488351232) (L : List S35) (idx : Int) (kd v : Int) (tx : ByteArray) (p : Nat) (hp : p < s.size) : ∀ (d i k : Nat), p - i = d → i ≤ p → (∀ j : Nat, i ≤ j → j < p → gap (bt s j) = true) →
    replevinlaw01_LexPlaces.l1 (k + d + 1) s i L L.length idx kd tx v p = replevinlaw01_LexPlaces.l0 k s (wrap64 ((p : Int) + tx.size)) L L.length (wrap64 (idx + 1)) := by
  intro d
  induction d with
  | zero =>
    intro i k hd hi hg
    obtain rfl : i = p := by omega
    rw [replevinlaw01_LexPlaces.l1, if_neg (by omega)]
  | succ d ih =>
    intro i k hd hi hg
    have h := ih (i + 1) k (by omega) (by omega) (fun j a b => hg j (by omega) b)
    rw [show k + (d + 1) + 1 = (k + d + 1) + 1 by omega, replevinlaw01_LexPlaces.l1, if_pos (by omega), if_pos (by omega), if_pos (by omega), wrap_small (by omega) (by omega), show ((i : Int) + 1) = ((i + 1 : Nat) : Int) by omega, h]
    rcases gap_or (hg i (Nat.le_refl _) (by omega)) with h1 | h1
    · rw [if_pos h1]
    · rw [if_neg (by omega), if_pos h1]
theorem places_l0 (s : ByteArray) (hs : s.size ≤ 140737488351232) {i : Nat} {rest : List S35} (h : Toks s i rest) : ∀ (L : List S35) (idx k : Nat), L.drop idx = rest → idx ≤ L.length → L.length ≤ 5000 → (s.size - i) + 4 * rest.length + 3 ≤ k →
    replevinlaw01_LexPlaces.l0 k s i L L.length idx = some true := by
  induction h with
  | @nil i h =>
    intro L idx k hd hi hL hk
    have hl : L.length ≤ idx := by simpa using hd
    simp only [List.length_nil] at hk
    obtain ⟨k, rfl⟩ : ∃ m, k = m + 1 := ⟨k - 1, by omega⟩
    rw [replevinlaw01_LexPlaces.l0, if_neg (by omega)]
    exact places_l2 s hs _ i k rfl h (by omega)
  | @cons i p l h0 h1 hg hng hok h ih =>
    intro L idx k hd hi hL hk
    have hlt : idx < L.length := by
      rcases Nat.lt_or_ge idx L.length with h2 | h2
      · exact h2
      · rw [List.drop_eq_nil_of_le h2] at hd; cases hd
    rw [drop_rd L idx hlt] at hd
    injection hd with hd1 hd2
    have hgt := endS_gt s p h1 hok
    have ht := tokS_text s p
    have hz := tokS_size s p h1 hok
    simp only [List.length_cons] at hk
    clear hok h
    generalize tokS s p = tk at *
    generalize endS s p = E at *
    obtain ⟨t0, t1, t2, t3⟩ := tk
    obtain ⟨k, rfl⟩ : ∃ m, k = (m + (p - i) + 1) + 1 + 1 := ⟨k - (p - i) - 3, by omega⟩
    obtain ⟨hx, rfl⟩ : s.extract p E = t1 ∧ t3 = (p : Int) := ⟨ht.1.symm, ht.2⟩
    simp only [] at hz
    have hne := toList_ne t1 (by omega)
    have hf0 : Hid (wrap64 ((p : Int) + (t1.size : Int)) = (E : Int)) := by
      show _ = _
      rw [wrap_small (by omega) (by omega), hz]; omega
    rw [replevinlaw01_LexPlaces.l0, if_pos (by omega), if_pos (by omega), if_pos (by omega), hd1, hf0.out, if_neg (by omega), if_neg (by omega), if_pos (by omega), if_pos (by omega), if_pos (by omega), Int.toNat_natCast, Int.toNat_natCast, hx, if_pos rfl, hne]
    rw [replevinlaw01_LexPlaces.j1, if_neg (by simp), places_l1 s hs L idx _ _ _ p h1 (p - i) i k rfl h0 hg, hf0.out, wrap_small (by omega) (by omega), show ((idx : Int) + 1) = ((idx + 1 : Nat) : Int) by omega]
    exact ih L (idx + 1) k hd2 (by omega) hL (by omega)

theorem LexPlaces : replevinlaw01_LexPlaces.Pure := by
  intro s hs
  cases hx : lexAt s 0 0 with
  | inl l =>
    have hlen := lexAt_len s s.size 0 0 l (by omega) (by omega) hx
    have ht := lexAt_toks s.size 0 0 l (by omega) hx
    refine ⟨s.size + 4 * l.length + 3, ?_⟩
    rw [replevinlaw01_LexPlaces.f, replevinlaw01_awake.f, Option.bind_some, if_pos rfl]
    by_cases h0 : (s.size : Int) > 4096
    · rw [if_pos h0]
    rw [if_neg h0, show lex_Lex.f s = some (lexR s) by unfold lex_Lex.f; rw [if_pos hs], Option.bind_some, lexR_ok hx, if_pos rfl]
    exact places_l0 s hs ht l 0 _ rfl (by omega) (by omega) (by omega)
  | inr pe =>
    obtain ⟨p, e⟩ := pe
    obtain ⟨l, q, hp, h1, h2, h3, h4, h5, h6⟩ := lexAt_err s.size 0 0 p e (by omega) (by omega) hx
    refine ⟨1, ?_⟩
    rw [replevinlaw01_LexPlaces.f, replevinlaw01_awake.f, Option.bind_some, if_pos rfl]
    by_cases h0 : (s.size : Int) > 4096
    · rw [if_pos h0]
    rw [if_neg h0, show lex_Lex.f s = some (lexR s) by unfold lex_Lex.f; rw [if_pos hs], Option.bind_some, lexR_err hx, if_neg (by rcases h6 with h6 | h6 <;> (intro hc; have := h6.1; simp at hc; omega)), if_pos (show (p : Int) ≥ 0 by omega)]
    simp
    omega
end Go.Proofs.Ytaempeleddamlaa.Pure
