/- Lemmas and contracts for the functions of one layer of the document's answer, used by the law's proof. No conditions beyond those typed. -/
import Derived.Test.YtdphomiljkclbaaDoorLexY
import Derived.Test.YtdphomiljkclbaaDoorLexU
import Derived.Test.YtdphomiljkclbaaDoorP1
namespace Go.Proofs.YtdphomiljkclbaaDoor
set_option linter.unusedVariables false
set_option linter.unusedSimpArgs false
open Go.RowKit Go.Proofs.YtdphomiljkclbaaDoorW.PrintWords Go.Proofs.YtdphomiljkclbaaDoorW.PrintLast Go.Proofs.YtdphomiljkclbaaDoorW.PrintMore Go.Proofs.YtdphomiljkclbaaDoor.P

theorem lexR_ok2 {s : ByteArray} {l : List S47} (h : lexAt s 0 0 = .inl l) : lexR s = (l, 0, 0) := by unfold lexR; rw [h]
theorem lexR_err2 {s : ByteArray} {p : Nat} {e : Int} (h : lexAt s 0 0 = .inr (p, e)) : lexR s = ([], (p : Int), e) := by unfold lexR; rw [h]
theorem extract_all (s : ByteArray) : s.extract 0 s.size = s := by
  apply bytes_ext
  · rw [ByteArray.size_extract]; omega
  · intro k hk
    rw [ByteArray.size_extract] at hk
    have := bt_extract s 0 s.size k (by omega) (by omega)
    rw [Nat.zero_add] at this
    exact this
theorem tok_one {s : ByteArray} {p : Nat} (h1 : p < s.size) (hok : okS s p = true) (hk : (tokS s p).f0 = 1) (hx : (tokS s p).f1 = s) : nameR s = true := by
  have hgt := endS_gt s p h1 hok
  have hz := tokS_size s p h1 hok
  rw [hx] at hz
  obtain rfl : p = 0 := by omega
  have hlet : isLet (bt s 0) = true := by
    unfold tokS at hk
    split at hk
    · simp [tokAt] at hk
    · split at hk
      · assumption
      · simp [tokAt] at hk
  have h2 := okS_let (s := s) (i := 0) hlet
  rw [h2.1] at hok
  rw [h2.2.1] at hz hgt
  unfold nameR
  have h3 : runE isInn s 0 ≤ 20 := by simpa using hok
  rw [hlet]
  simp only [Bool.and_true, Bool.and_eq_true, decide_eq_true_eq]
  omega
theorem name_tells (s : ByteArray) (hs : s.size ≤ 140737488351232) : replevinref01_Name.f s = some (nameR s) := by
  rw [replevinref01_Name.f, show replevinref01_Lex.f s = some ((lexR s).1.map cvt, (lexR s).2.1, (lexR s).2.2) by unfold replevinref01_Lex.f; rw [if_pos hs], Option.bind_some]
  cases hx : lexAt s 0 0 with
  | inr pe =>
    obtain ⟨p, e⟩ := pe
    obtain ⟨l, q, hp, h1, h2, h3, h4, h5, h6⟩ := lexAt_err s.size 0 0 p e (by omega) (by omega) hx
    rw [lexR_err2 hx, if_neg (by rcases h6 with h6 | h6 <;> (intro hc; have := h6.1; simp at hc; omega))]
    cases hn : nameR s with
    | false => rfl
    | true =>
      exfalso
      unfold nameR at hn
      simp only [Bool.and_eq_true, decide_eq_true_eq] at hn
      obtain ⟨⟨⟨a, b⟩, c⟩, d⟩ := hn
      have h7 := okS_let (s := s) (i := 0) c
      have hok : okS s 0 = true := by rw [h7.1, d]; simp; omega
      have hg : gap (bt s 0) = false := by
        cases h : gap (bt s 0)
        · rfl
        · rw [(gap_not h).2.2] at c; cases c
      have ht : Toks s 0 [tokS s 0] := .cons 0 (Nat.le_refl _) a (fun j h1 h2 => by omega) hg hok (.nil (fun j h1 h2 => by rw [h7.2.1, d] at h1; omega))
      have := ht.ends 0 (by simp)
      rw [hx] at this
      cases this
  | inl l =>
    rw [lexR_ok2 hx, if_pos rfl]
    have ht := lexAt_toks s.size 0 0 l (by omega) hx
    simp only [List.length_map]
    by_cases hl : (l.length : Int) = 1
    · rw [if_pos hl, if_pos (by omega)]
      match l, hl with
      | [t], _ =>
        cases ht with
        | cons p h0 h1 hg hng hok h =>
          have e0 : rd_T55 ([tokS s p].map cvt) 0 = cvt (tokS s p) := rfl
          rw [e0]
          show (if (tokS s p).f0 = 1 then some ((tokS s p).f1.toList == s.toList) else some false) = _
          by_cases hk : (tokS s p).f0 = 1
          · rw [if_pos hk]
            by_cases hx' : (tokS s p).f1 = s
            · rw [tok_one h1 hok hk hx', hx']
              simp
            · have hne : ((tokS s p).f1.toList == s.toList) = false := by
                rw [ByteArray.toList_eq, ByteArray.toList_eq]
                simp only [beq_eq_false_iff_ne, ne_eq]
                intro h2
                exact hx' (ByteArray.ext (Array.toList_inj.1 h2))
              rw [hne]
              cases hn : nameR s with
              | false => rfl
              | true =>
                exfalso
                unfold nameR at hn
                simp only [Bool.and_eq_true, decide_eq_true_eq] at hn
                obtain ⟨⟨⟨a, b⟩, c⟩, d⟩ := hn
                have hp0 : p = 0 := by
                  rcases Nat.eq_zero_or_pos p with h2 | h2
                  · exact h2
                  · have h9 : gap (bt s 0) = true := hg 0 (Nat.le_refl _) h2
                    rw [(gap_not h9).2.2] at c
                    cases c
                subst hp0
                have h7 := okS_let (s := s) (i := 0) c
                apply hx'
                rw [(tokS_text s 0).1, h7.2.1, d]
                exact extract_all s
          · rw [if_neg hk]
            cases hn : nameR s with
            | false => rfl
            | true =>
              exfalso
              unfold nameR at hn
              simp only [Bool.and_eq_true, decide_eq_true_eq] at hn
              obtain ⟨⟨⟨a, b⟩, c⟩, d⟩ := hn
              have hp0 : p = 0 := by
                rcases Nat.eq_zero_or_pos p with h2 | h2
                · exact h2
                · have h9 : gap (bt s 0) = true := hg 0 (Nat.le_refl _) h2
                  rw [(gap_not h9).2.2] at c
                  cases c
              subst hp0
              have h7 := okS_let (s := s) (i := 0) c
              apply hk
              rw [h7.2.2]
              rfl
    · rw [if_neg hl]
      cases hn : nameR s with
      | false => rfl
      | true =>
        exfalso
        unfold nameR at hn
        simp only [Bool.and_eq_true, decide_eq_true_eq] at hn
        obtain ⟨⟨⟨a, b⟩, c⟩, d⟩ := hn
        have h7 := okS_let (s := s) (i := 0) c
        have hok : okS s 0 = true := by rw [h7.1, d]; simp; omega
        have hg : gap (bt s 0) = false := by
          cases h : gap (bt s 0)
          · rfl
          · rw [(gap_not h).2.2] at c; cases c
        have ht2 : Toks s 0 [tokS s 0] := .cons 0 (Nat.le_refl _) a (fun j h1 h2 => by omega) hg hok (.nil (fun j h1 h2 => by rw [h7.2.1, d] at h1; omega))
        have h8 := ht2.ends 0 (by simp)
        rw [hx] at h8
        injection h8 with h8
        subst h8
        simp at hl
theorem RName_any (s : ByteArray) (W : World) (hs : s.size ≤ 140737488351232) : Calls Tryd.prog 17 #[.string s] W fun e w' => e = .returned (.bool (nameR s)) ∧ Below W.heap.size W w' :=
  replevinref01_Name.calls s (nameR s) W (name_tells s hs)
end Go.Proofs.YtdphomiljkclbaaDoor
