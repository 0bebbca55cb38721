/- Whatever the text: its tokens, joined and parted again, are the same but for their places; joined again the text is the same. No conditions. -/
import Derived.Test.YtaempeleddamlaaP3
import Derived.Test.YtaempeleddamlaaLexV
namespace Go.Proofs.Ytaempeleddamlaa.Pure
set_option linter.unusedVariables false
set_option linter.unusedSimpArgs false
open Go.RowKit Go.Proofs.Ytaempeleddamlaa.P Go.Proofs.YtaempeleddamlaaW.PrintWords Go.Proofs.YtaempeleddamlaaW.PrintLast Go.Proofs.Ytaempeleddamlaa

theorem wrap_small2 {x : Int} (h0 : 0 ≤ x) (h1 : x ≤ 9223372036854775807) : wrap64 x = x := by unfold wrap64; omega
theorem bt_list (s : ByteArray) (k : Nat) : bt s k = ((s.data.toList.getD k 0).toNat : Int) := by
  unfold bt
  rw [Int.toNat_natCast]
  split
  · rename_i h
    have h' : k < s.data.toList.length := by rw [data_length]; exact h
    simp [List.getD_eq_getElem?_getD, List.getElem?_eq_getElem h']
    rfl
  · rename_i h
    have h' : s.data.toList.length ≤ k := by rw [data_length]; omega
    simp [List.getD_eq_getElem?_getD, List.getElem?_eq_none h']
theorem bt_drop {T : ByteArray} {q : Nat} {w : List UInt8} (h : T.data.toList.drop q = w) (k : Nat) : bt T (q + k : Nat) = ((w.getD k 0).toNat : Int) := by
  rw [bt_list, ← h]
  simp [List.getD_eq_getElem?_getD, List.getElem?_drop]
theorem size_drop {T : ByteArray} {q : Nat} {w : List UInt8} (h : T.data.toList.drop q = w) (hq : q ≤ T.size) : T.size = q + w.length := by
  have := congrArg List.length h
  rw [List.length_drop, data_length] at this
  omega
theorem drop_more {T : ByteArray} {q : Nat} {u w : List UInt8} (h : T.data.toList.drop q = u ++ w) (n : Nat) (hn : n = u.length) : T.data.toList.drop (q + n) = w := by
  subst hn
  rw [← List.drop_drop, h, List.drop_left]

/-- Tokens, laid where the text that is joined of them has them. -/
def reT : Bool → Nat → List S35 → List S35
  | _, _, [] => []
  | b, q, t :: l => if semi t.f1 then atPut t q :: reT true (q + t.f1.size + 1) l else if b then atPut t q :: reT false (q + t.f1.size) l else atPut t (q + 1) :: reT false (q + 1 + t.f1.size) l
theorem reT_len : ∀ (b : Bool) (q : Nat) (l : List S35), (reT b q l).length = l.length
  | _, _, [] => rfl
  | b, q, t :: l => by simp only [reT]; split; simp [reT_len]; split <;> simp [reT_len]
theorem reT_join : ∀ (l : List S35) (b c : Bool) (q : Nat), joinL c (reT b q l) = joinL c l
  | [], _, _, _ => rfl
  | t :: l, b, c, q => by
    simp only [reT]
    split
    · rename_i h; simp only [joinL, atPut, h, if_true]; rw [reT_join l]
    · rename_i h
      have h' : semi t.f1 = false := by simpa using h
      split <;> (simp only [joinL, atPut, h', Bool.false_eq_true, if_false]; rw [reT_join l])
theorem reT_get : ∀ (l : List S35) (b : Bool) (q idx : Nat), idx < l.length → ∃ x, rd_T35 (reT b q l) idx = atPut (rd_T35 l idx) x
  | [], _, _, _, h => by simp at h
  | t :: l, b, q, idx, h => by
    simp only [reT]
    cases idx with
    | zero => split; exact ⟨q, rfl⟩; split; exact ⟨q, rfl⟩; exact ⟨q + 1, rfl⟩
    | succ idx =>
      simp only [List.length_cons] at h
      have key : ∀ (x : S35) (r : List S35), rd_T35 (x :: r) ((idx + 1 : Nat) : Int) = rd_T35 r (idx : Nat) := fun x r => by
        simp [rd_T35, List.getD_eq_getElem?_getD]
      rw [key]
      split
      · rw [key]; exact reT_get l true _ idx (by omega)
      · split
        · rw [key]; exact reT_get l false _ idx (by omega)
        · rw [key]; exact reT_get l false _ idx (by omega)
theorem Toks_gap {s : ByteArray} {i : Nat} {l : List S35} (h : Toks s (i + 1) l) (hg : gap (bt s i) = true) : Toks s i l := by
  cases h with
  | nil h => exact .nil (gap_down hg h)
  | cons p h0 h1 hg2 hng hok h => exact .cons p (by omega) h1 (gap_down hg hg2) hng hok h
theorem join_len {s : ByteArray} {i : Nat} {l : List S35} (h : Toks s i l) : ∀ b, (joinL b l).length ≤ 3 * (s.size - i) := by
  induction h with
  | nil h => intro b; simp [joinL]
  | @cons i p l h0 h1 hg hng hok h ih =>
    intro b
    have hgt := endS_gt s p h1 hok
    have hz := tokS_size s p h1 hok
    have hd := data_length (tokS s p).f1
    simp only [joinL, List.length_append, hd]
    have a1 := ih true
    have a2 := ih false
    split <;> split <;> simp <;> omega
theorem tok_head {s : ByteArray} {p : Nat} (h1 : p < s.size) (hok : okS s p = true) (k : Nat) (hk : k < endS s p - p) : (((tokS s p).f1.data.toList.getD k 0).toNat : Int) = bt s (p + k : Nat) := by
  have hgt := endS_gt s p h1 hok
  rw [← bt_list, (tokS_text s p).1]
  exact bt_extract s p (endS s p) k (by omega) hk
theorem head_of {u w : List UInt8} (k : Nat) (h : k < u.length) : (u ++ w).getD k 0 = u.getD k 0 := by
  simp [List.getD_eq_getElem?_getD, List.getElem?_append_left h]
/-- What comes next behind a word in the joined text is none of a word's bytes. -/
theorem next_not (l : List S35) (h : joinL false l ≠ []) : isInn (((joinL false l).getD 0 0).toNat : Int) = false := by
  cases l with
  | nil => exact absurd rfl h
  | cons t l =>
    simp only [joinL]
    cases hs : semi t.f1
    · simp only [Bool.not_false, Bool.and_self, if_true]
      rfl
    · have ht : t.f1.data.toList = [59] := by
        unfold semi at hs
        rw [ByteArray.toList_eq] at hs
        simpa using hs
      rw [ht]
      rfl
theorem re_toks {s : ByteArray} {i : Nat} {l : List S35} (h : Toks s i l) (T : ByteArray) : ∀ (b : Bool) (q : Nat), q ≤ T.size → T.data.toList.drop q = joinL b l → Toks T q (reT b q l) := by
  induction h with
  | nil h =>
    intro b q hq hT
    have hz := size_drop hT hq
    simp only [joinL, List.length_nil] at hz
    exact .nil (fun j a b => by omega)
  | @cons i p l h0 h1 hg hng hok h ih =>
    intro b q hq hT
    have hgt := endS_gt s p h1 hok
    have hz := tokS_size s p h1 hok
    have hd := data_length (tokS s p).f1
    have hkind := tok_kind h1 hok
    -- the token at q', whatever follows
    have core : ∀ (q' : Nat) (w : List UInt8), q' ≤ T.size → T.data.toList.drop q' = (tokS s p).f1.data.toList ++ w → (semi (tokS s p).f1 = true ∨ w = [] ∨ isInn ((w.getD 0 0).toNat : Int) = false) →
        q' < T.size ∧ gap (bt T q') = false ∧ okS T q' = true ∧ endS T q' = q' + (tokS s p).f1.size ∧ tokS T q' = atPut (tokS s p) q' := by
      intro q' w hq' hT' hw
      have hz' := size_drop hT' hq'
      rw [List.length_append, hd] at hz'
      have hb : ∀ k : Nat, k < endS s p - p → bt T (q' + k : Nat) = bt s (p + k : Nat) := fun k hk => by
        rw [bt_drop hT' k, head_of k (by rw [hd]; omega)]
        exact tok_head h1 hok k hk
      have hmv := tok_move (s := s) (t := T) (i := p) (j := q') h1 hok (by omega) hb (by
        rcases hw with hw | hw | hw
        · exact .inl (hkind.2 hw)
        · right; left; subst hw; simp at hz'; omega
        · right
          rcases Nat.eq_zero_or_pos w.length with h2 | h2
          · left; omega
          · right
            rw [bt_drop hT' (endS s p - p)]
            have : ((tokS s p).f1.data.toList ++ w).getD (endS s p - p) 0 = w.getD 0 0 := by
              rw [← hz, ← hd, List.getD_eq_getElem?_getD, List.getElem?_append_right (Nat.le_refl _), Nat.sub_self, List.getD_eq_getElem?_getD]
            rw [this]
            exact hw)
      have h00 := hb 0 (by omega)
      simp only [Nat.add_zero] at h00
      refine ⟨by omega, by rw [h00]; exact hng, hmv.1, by rw [hmv.2.1]; omega, hmv.2.2⟩
    simp only [reT]
    simp only [joinL] at hT
    cases hs : semi (tokS s p).f1
    · simp only [hs, Bool.false_eq_true, if_false, Bool.not_false, Bool.and_true] at hT ⊢
      cases b
      · simp only [Bool.not_false, if_true, Bool.false_eq_true, if_false] at hT ⊢
        have hT1 : T.data.toList.drop (q + 1) = (tokS s p).f1.data.toList ++ joinL false l := drop_more (u := [32]) (by simpa using hT) 1 rfl
        have hzq := size_drop hT hq
        simp only [List.length_append, List.length_cons, List.length_nil, hd] at hzq
        have hw : joinL false l = [] ∨ isInn (((joinL false l).getD 0 0).toNat : Int) = false := by
          by_cases he : joinL false l = []
          · exact .inl he
          · exact .inr (next_not l he)
        obtain ⟨c1, c2, c3, c4, c5⟩ := core (q + 1) _ (by omega) hT1 (.inr hw)
        have h32 : bt T q = 32 := by
          have := bt_drop hT 0
          rw [Nat.add_zero] at this
          rw [this]; rfl
        rw [← c5]
        refine .cons (q + 1) (by omega) c1 (fun j a b => by rw [show j = q by omega, h32]; rfl) c2 c3 ?_
        rw [c4]
        exact ih false _ (by omega) (drop_more hT1 _ hd.symm)
      · simp only [Bool.not_true, Bool.false_eq_true, if_false, if_true, List.nil_append] at hT ⊢
        have hzq := size_drop hT hq
        simp only [List.length_append, hd] at hzq
        have hw : joinL false l = [] ∨ isInn (((joinL false l).getD 0 0).toNat : Int) = false := by
          by_cases he : joinL false l = []
          · exact .inl he
          · exact .inr (next_not l he)
        obtain ⟨c1, c2, c3, c4, c5⟩ := core q _ (by omega) hT (.inr hw)
        rw [← c5]
        refine .cons q (Nat.le_refl _) c1 (fun j a b => by omega) c2 c3 ?_
        rw [c4]
        exact ih false _ (by omega) (drop_more hT _ hd.symm)
    · simp only [hs, if_true, Bool.not_true, Bool.and_false, Bool.false_eq_true, if_false, List.nil_append] at hT ⊢
      have hzq := size_drop hT hq
      simp only [List.length_append, List.length_cons, hd] at hzq
      obtain ⟨c1, c2, c3, c4, c5⟩ := core q _ (by omega) hT (.inl hs)
      rw [← c5]
      refine .cons q (Nat.le_refl _) c1 (fun j a b => by omega) c2 c3 ?_
      rw [c4]
      have hT1 := drop_more hT _ hd.symm
      have h10 : bt T (q + (tokS s p).f1.size : Nat) = 10 := by
        have := bt_drop hT1 0
        rw [Nat.add_zero] at this
        rw [this]; rfl
      exact Toks_gap (ih true _ (by omega) (drop_more (u := [10]) (by simpa using hT1) 1 rfl)) (by rw [h10]; rfl)
theorem Toks_get {s : ByteArray} {i : Nat} {l : List S35} (h : Toks s i l) : ∀ idx : Nat, idx < l.length → ∃ p, p < s.size ∧ okS s p = true ∧ rd_T35 l idx = tokS s p := by
  induction h with
  | nil h => intro idx hi; simp at hi
  | @cons i p l h0 h1 hg hng hok h ih =>
    intro idx hi
    cases idx with
    | zero => exact ⟨p, h1, hok, rfl⟩
    | succ idx =>
      simp only [List.length_cons] at hi
      obtain ⟨p', a, b, c⟩ := ih idx (by omega)
      refine ⟨p', a, b, ?_⟩
      rw [← c]
      simp [rd_T35, List.getD_eq_getElem?_getD]
theorem back_l0 (l m : List S35) (T : ByteArray) (hT : T.size ≤ 140737488351232) (hlen : m.length = l.length) (hl : l.length ≤ 5000)
    (hsame : ∀ idx : Nat, idx < l.length → ∃ x, rd_T35 m idx = atPut (rd_T35 l idx) x)
    (htok : ∀ idx : Nat, idx < m.length → ∃ p, p < T.size ∧ okS T p = true ∧ rd_T35 m idx = tokS T p) :
    ∀ (d idx k : Nat), m.length - idx = d → d < k → replevinlaw01_LexBack.l0 k l T m m.length idx = some true := by
  intro d
  induction d with
  | zero =>
    intro idx k hd hk
    obtain ⟨k, rfl⟩ : ∃ n, k = n + 1 := ⟨k - 1, by omega⟩
    rw [replevinlaw01_LexBack.l0, if_neg (by omega)]
  | succ d ih =>
    intro idx k hd hk
    obtain ⟨k, rfl⟩ : ∃ n, k = n + 1 := ⟨k - 1, by omega⟩
    obtain ⟨x, hx⟩ := hsame idx (by omega)
    obtain ⟨p, hp, hok, htk⟩ := htok idx (by omega)
    have hgt := endS_gt T p hp hok
    have ht := tokS_text T p
    have hz := tokS_size T p hp hok
    have e0 : (rd_T35 m idx).f0 = (rd_T35 l idx).f0 := by rw [hx]; rfl
    have e1 : (rd_T35 m idx).f1 = (rd_T35 l idx).f1 := by rw [hx]; rfl
    have e2 : (rd_T35 m idx).f2 = (rd_T35 l idx).f2 := by rw [hx]; rfl
    rw [replevinlaw01_LexBack.l0, if_pos (by omega), if_pos (by omega), if_pos (by omega), if_pos (by omega), if_pos e0, if_pos (by rw [e1]), if_pos e2]
    have hf : Hid (wrap64 ((p : Int) + ((tokS T p).f1.size : Int)) = (endS T p : Int)) := by
      show _ = _
      rw [wrap_small2 (by omega) (by omega), hz]; omega
    rw [htk, ht.2, hf.out, if_pos (by omega), if_pos (by omega), if_pos (by omega), Int.toNat_natCast, Int.toNat_natCast, if_pos (by rw [ht.1]), wrap_small2 (by omega) (by omega), show ((idx : Int) + 1) = ((idx + 1 : Nat) : Int) by omega]
    exact ih (idx + 1) k (by omega) (by omega)

theorem LexBack : replevinlaw01_LexBack.Pure := by
  intro s hs
  cases hx : lexAt s 0 0 with
  | inl l =>
    have hlen := lexAt_len s s.size 0 0 l (by omega) (by omega) hx
    have ht := lexAt_toks s.size 0 0 l (by omega) hx
    have hj := join_len ht true
    refine ⟨l.length + 2, ?_⟩
    rw [replevinlaw01_LexBack.f, replevinlaw01_awake.f, Option.bind_some, if_pos rfl]
    by_cases h0 : (s.size : Int) > 4096
    · rw [if_pos h0]
    rw [if_neg h0, show lex_Lex.f s = some (lexR s) by unfold lex_Lex.f; rw [if_pos hs], Option.bind_some, lexR_ok hx, if_pos rfl]
    have hTl : (⟨(joinL true l).toArray⟩ : ByteArray).data.toList.drop 0 = joinL true l := by simp
    have hTs : (⟨(joinL true l).toArray⟩ : ByteArray).size = (joinL true l).length := by
      have := size_drop hTl (by omega)
      omega
    obtain ⟨T, hTT⟩ : ∃ T : ByteArray, T = ⟨(joinL true l).toArray⟩ := ⟨_, rfl⟩
    rw [← hTT] at hTl hTs
    have hm := re_toks ht T true 0 (by omega) hTl
    have hml := reT_len true 0 l
    have hlm : lexR T = (reT true 0 l, 0, 0) := lexR_ok (hm.ends 0 (by omega))
    have hJ : ∀ l', joinL true l' = joinL true l → lex_Join.f l' = some T := fun l' h => by unfold lex_Join.f; rw [h, if_pos (by omega), hTT]
    rw [hJ l rfl, Option.bind_some, show lex_Lex.f T = some (lexR T) by unfold lex_Lex.f; rw [if_pos (by omega)], Option.bind_some, hlm, if_pos rfl, if_pos (show ((reT true 0 l).length : Int) = (l.length : Int) by omega), hJ _ (reT_join l true true 0), Option.bind_some, show (T.toList != T.toList) = false by simp, replevinlaw01_LexBack.j0, if_neg (by simp)]
    exact back_l0 l _ T (by omega) hml (by omega) (fun idx h => reT_get l true 0 idx h) (fun idx h => Toks_get hm idx h) _ 0 (l.length + 1) rfl (by omega)
  | inr pe =>
    obtain ⟨p, e⟩ := pe
    obtain ⟨l, q, hp, h1, h2, h3, h4, h5, h6⟩ := lexAt_err s.size 0 0 p e (by omega) (by omega) hx
    refine ⟨1, ?_⟩
    rw [replevinlaw01_LexBack.f, replevinlaw01_awake.f, Option.bind_some, if_pos rfl]
    by_cases h0 : (s.size : Int) > 4096
    · rw [if_pos h0]
    rw [if_neg h0, show lex_Lex.f s = some (lexR s) by unfold lex_Lex.f; rw [if_pos hs], Option.bind_some, lexR_err hx, if_neg (by rcases h6 with h6 | h6 <;> (intro hc; have := h6.1; simp at hc; omega))]
    rfl
end Go.Proofs.Ytaempeleddamlaa.Pure
