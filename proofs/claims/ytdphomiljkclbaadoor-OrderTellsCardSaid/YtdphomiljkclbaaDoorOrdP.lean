/- Lemmas for the functions of one layer of the document's answer, used by the law's proof. No conditions beyond those typed. -/
import Derived.Test.YtdphomiljkclbaaDoorOrdL
namespace Go.Proofs.YtdphomiljkclbaaDoor
set_option linter.unusedVariables false
set_option linter.unusedSimpArgs false
open Go.RowKit Go.Proofs.YtdphomiljkclbaaDoorW.PrintWords Go.Proofs.YtdphomiljkclbaaDoorW.PrintLast Go.Proofs.YtdphomiljkclbaaDoorW.PrintMore Go.Proofs.YtdphomiljkclbaaDoor.P

theorem tok_name {s : ByteArray} {p : Nat} (h1 : p < s.size) (hok : okS s p = true) : ((tokS s p).f0 = 1 → nameR (tokS s p).f1 = true) ∧ (nameR (tokS s p).f1 = true → (tokS s p).f0 = 1) := by
  have hgt := endS_gt s p h1 hok
  have hx := (tokS_text s p).1
  have hb0 : bt (tokS s p).f1 0 = bt s p := by
    rw [hx]
    have := bt_extract s p (endS s p) 0 (by omega) (by omega)
    simpa using this
  have hno : isLet (bt s p) = false → nameR (tokS s p).f1 = false := by
    intro h
    unfold nameR
    rw [hb0, h]; simp
  cases hl : isLet (bt s p)
  · refine ⟨fun h => ?_, fun h => ?_⟩
    · exfalso
      unfold tokS at h
      rw [hl] at h
      split at h
      · simp [tokAt] at h
      · simp [tokAt] at h
    · rw [hno hl] at h; cases h
  · have h2 := okS_let (s := s) (i := p) hl
    refine ⟨fun _ => ?_, fun _ => by rw [h2.2.2]; rfl⟩
    rw [h2.1] at hok
    have h20 : runE isInn s p - p ≤ 20 := by simpa using hok
    rw [h2.2.1] at hgt hx
    have hsz : (tokS s p).f1.size = runE isInn s p - p := by rw [hx, ByteArray.size_extract]; omega
    have hrun : runE isInn (tokS s p).f1 0 = 0 + (runE isInn s p - p) := by
      refine runE_move (runE isInn s p - p) p 0 rfl (by omega) (by omega) (fun k hk => ?_) (.inl (by omega))
      rw [hx, bt_extract s p (runE isInn s p) (0 + k) (by omega) (by omega), Nat.zero_add]
    unfold nameR
    rw [hb0, hl, hrun, hsz]
    simp only [Bool.and_true, Bool.and_eq_true, decide_eq_true_eq]
    omega
theorem toks_name {s : ByteArray} {i : Nat} {l : List Tk} (h : Toks s i l) : ∀ t ∈ l, (t.f0 = 1 → nameR t.f1 = true) ∧ (nameR t.f1 = true → t.f0 = 1) := by
  induction h with
  | nil => intro t ht; cases ht
  | cons p h0 h1 hg hng hok h ih =>
    intro t ht
    rcases List.mem_cons.1 ht with rfl | ht
    · exact tok_name h1 hok
    · exact ih t ht
theorem lexR_name (s : ByteArray) (i : Nat) (hi : i < (lexR s).1.length) : ((rdT (lexR s).1 i).f0 = 1 → nameR (rdT (lexR s).1 i).f1 = true) ∧ (nameR (rdT (lexR s).1 i).f1 = true → (rdT (lexR s).1 i).f0 = 1) := by
  revert hi
  unfold lexR
  cases hx : lexAt s 0 0 with
  | inl l =>
    intro hi
    have hi' : i < l.length := hi
    have hm : rdT l i ∈ l := by
      have e : rdT l (i : Int) = l[i] := by simp [rdT, rd_T47, hi']
      rw [e]
      exact List.getElem_mem hi'
    exact toks_name (lexAt_toks s.size 0 0 l (by omega) hx) _ hm
  | inr e =>
    obtain ⟨j, e⟩ := e
    intro hi
    cases hi
/-- The tokens of the document's answer. -/
theorem rd_cvt (l : List Tk) (i : Nat) : (rd_T55 (l.map cvt) (i : Int)) = cvt (rdT l i) := by
  by_cases h : i < l.length
  · simp [rdT, rd_T47, rd_T55, h]
  · have h1 : l.length ≤ i := by omega
    simp [rdT, rd_T47, rd_T55, h1]
    rfl
def formL (k : Int) : List Int := (partsK k).data.toList.map (fun c => wantP c.toNat) ++ [3]
theorem form_word (k : Int) (h1 : 1 ≤ k) (h9 : k ≤ 9) : replevinref15_form.f 1 (wordB k) = some (formL k) :=
  kinds (p := fun k => replevinref15_form.f 1 (wordB k) = some (formL k)) ⟨by kernel_rfl, by kernel_rfl, by kernel_rfl, by kernel_rfl, by kernel_rfl, by kernel_rfl, by kernel_rfl, by kernel_rfl, by kernel_rfl⟩ k h1 h9
theorem not_word {x : ByteArray} (h : kindB x = 0) (k : Int) (h1 : 1 ≤ k) (h9 : k ≤ 9) : ¬ x.toList = (wordB k).toList := by
  intro e
  rw [Lib.toList_data, Lib.toList_data] at e
  have : x = wordB k := ByteArray.ext (Array.toList_inj.1 e)
  rw [this, kindB_word k h1 h9] at h
  omega
theorem form_none {x : ByteArray} (h : kindB x = 0) : replevinref15_form.f 1 x = some [] := by
  have n1 := not_word h 1 (by omega) (by omega)
  have n2 := not_word h 2 (by omega) (by omega)
  have n3 := not_word h 3 (by omega) (by omega)
  have n4 := not_word h 4 (by omega) (by omega)
  have n5 := not_word h 5 (by omega) (by omega)
  have n6 := not_word h 6 (by omega) (by omega)
  have n7 := not_word h 7 (by omega) (by omega)
  have n8 := not_word h 8 (by omega) (by omega)
  have n9 := not_word h 9 (by omega) (by omega)
  rw [show (wordB 1).toList = [111, 112, 101, 110] by rw [Lib.toList_data]; rfl] at n1
  rw [show (wordB 2).toList = [100, 111] by rw [Lib.toList_data]; rfl] at n2
  rw [show (wordB 3).toList = [116, 105, 99, 107] by rw [Lib.toList_data]; rfl] at n3
  rw [show (wordB 4).toList = [99, 108, 111, 115, 101] by rw [Lib.toList_data]; rfl] at n4
  rw [show (wordB 5).toList = [97, 119, 97, 121] by rw [Lib.toList_data]; rfl] at n5
  rw [show (wordB 6).toList = [104, 101, 114, 101] by rw [Lib.toList_data]; rfl] at n6
  rw [show (wordB 7).toList = [97, 115, 107] by rw [Lib.toList_data]; rfl] at n7
  rw [show (wordB 8).toList = [103, 105, 118, 101] by rw [Lib.toList_data]; rfl] at n8
  rw [show (wordB 9).toList = [111, 110] by rw [Lib.toList_data]; rfl] at n9
  unfold replevinref15_form.f replevinref15_form.j0
  simp [n1, n2, n3, n4, n5, n6, n7, n8, n9]
def chk (l : List Tk) (f : List Int) (j : Nat) : Prop := j + 1 < l.length ∧ (rdT l ((j + 1 : Nat) : Int)).f0 = f.getD j 0
def readPo (l : List Tk) : List UInt8 → Nat → Ord → Ord
  | [], _, o => o
  | c :: cs, i, o => readPo l cs (i + 1) (setP o c.toNat (rdT l i))
theorem readP_go (l : List Tk) : ∀ (cs : List UInt8) (i : Nat) (o : Ord), (∀ j, j < cs.length → i + j < l.length ∧ (rdT l ((i + j : Nat) : Int)).f0 = (cs.map (fun c => wantP c.toNat)).getD j 0) → readP l cs i o = .inl (readPo l cs i o) := by
  intro cs
  induction cs with
  | nil => intro i o _; rfl
  | cons c cs ih =>
    intro i o h
    have h0 := h 0 (by simp)
    rw [readP, if_pos ⟨by simpa using h0.1, by simpa using h0.2⟩, ih (i + 1) _ (fun j hj => ?_)]
    · rfl
    · have := h (j + 1) (by simp; omega)
      rw [show i + 1 + j = i + (j + 1) by omega]
      simpa using this
theorem readP_stop (l : List Tk) : ∀ (cs : List UInt8) (i : Nat) (o : Ord) (j : Nat), j < cs.length → (∀ j', j' < j → i + j' < l.length ∧ (rdT l ((i + j' : Nat) : Int)).f0 = (cs.map (fun c => wantP c.toNat)).getD j' 0) → ¬ (i + j < l.length ∧ (rdT l ((i + j : Nat) : Int)).f0 = (cs.map (fun c => wantP c.toNat)).getD j 0) → readP l cs i o = .inr (i + j) := by
  intro cs
  induction cs with
  | nil => intro i o j h; simp at h
  | cons c cs ih =>
    intro i o j hj h hn
    cases j with
    | zero =>
      rw [readP, if_neg (fun hc => hn ⟨by simpa using hc.1, by simpa using hc.2⟩)]
      rfl
    | succ j =>
      have h0 := h 0 (by omega)
      rw [readP, if_pos ⟨by simpa using h0.1, by simpa using h0.2⟩, ih (i + 1) _ j (by simpa using hj) (fun j' hj' => ?_) (fun hc => hn ?_)]
      · rw [show i + 1 + j = i + (j + 1) by omega]
      · have := h (j' + 1) (by omega)
        rw [show i + 1 + j' = i + (j' + 1) by omega]
        simpa using this
      · rw [show i + (j + 1) = i + 1 + j by omega]
        simpa using hc
def o1 (k : Int) : Ord := ⟨k, ⟨#[]⟩, ⟨#[]⟩, ⟨#[]⟩, 0⟩
theorem formL_len (k : Int) : (formL k).length = (partsK k).size + 1 := by
  unfold formL
  rw [List.length_append, List.length_map, Array.length_toList]; rfl
theorem formL_lt (k : Int) (j : Nat) (hj : j < (partsK k).size) : (formL k).getD j 0 = ((partsK k).data.toList.map (fun c => wantP c.toNat)).getD j 0 := by
  have hl : j < ((partsK k).data.toList.map (fun c => wantP c.toNat)).length := by rw [List.length_map, Array.length_toList]; exact hj
  unfold formL
  rw [List.getD_eq_getElem?_getD, List.getD_eq_getElem?_getD, List.getElem?_append_left hl]
theorem formL_end (k : Int) : (formL k).getD (partsK k).size 0 = 3 := by
  have hl : ((partsK k).data.toList.map (fun c => wantP c.toNat)).length = (partsK k).size := by rw [List.length_map, Array.length_toList]; rfl
  unfold formL
  rw [List.getD_eq_getElem?_getD, List.getElem?_append_right (by omega), hl, Nat.sub_self]
  rfl
theorem readL_fail {s : ByteArray} {l : List Tk} {k : Int} (h0 : 0 < l.length) (hk1 : (rdT l 0).f0 = 1) (hk : kindB (rdT l 0).f1 = k) (hk0 : k ≠ 0) (i : Nat) (hi : i < (formL k).length) (hp : ∀ j, j < i → chk l (formL k) j) (hn : ¬ chk l (formL k) i) : readL s l = (zeroO, placeO s l (i + 1), 2) := by
  have hlen := formL_len k
  have hPl : (partsK k).data.toList.length = (partsK k).size := by rw [Array.length_toList]; rfl
  have cv : ∀ j, j < (partsK k).size → (chk l (formL k) j ↔ (1 + j < l.length ∧ (rdT l ((1 + j : Nat) : Int)).f0 = ((partsK k).data.toList.map (fun c => wantP c.toNat)).getD j 0)) := by
    intro j hj
    unfold chk
    rw [formL_lt k j hj, Nat.add_comm j 1]
  unfold readL
  rw [if_pos ⟨h0, hk1, by rw [hk]; exact hk0⟩, hk]
  rcases Nat.lt_or_ge i (partsK k).size with h | h
  · rw [readP_stop l _ 1 _ i (by rw [hPl]; exact h) (fun j hj => (cv j (by omega)).1 (hp j hj)) (fun hc => hn ((cv i h).2 hc))]
    rw [Nat.add_comm 1 i]
  · obtain rfl : i = (partsK k).size := by omega
    rw [readP_go l _ 1 _ (fun j hj => (cv j (by rw [← hPl]; exact hj)).1 (hp j (by rw [← hPl]; exact hj)))]
    show readEnd s l (1 + (partsK k).size) _ = _
    unfold readEnd
    rw [if_neg (fun hc => hn ⟨by rw [Nat.add_comm]; exact hc.1, by rw [formL_end, Nat.add_comm]; exact hc.2⟩), Nat.add_comm 1]
theorem readL_pass {s : ByteArray} {l : List Tk} {k : Int} (h0 : 0 < l.length) (hk1 : (rdT l 0).f0 = 1) (hk : kindB (rdT l 0).f1 = k) (hk0 : k ≠ 0) (hp : ∀ j, j < (formL k).length → chk l (formL k) j) :
    readL s l = if (formL k).length + 1 < l.length then (zeroO, placeO s l ((formL k).length + 1), 2) else if mayO (readPo l (partsK k).data.toList 1 (o1 k)) then (readPo l (partsK k).data.toList 1 (o1 k), 0, 0) else (zeroO, placeO s l 1, 3) := by
  have hlen := formL_len k
  have hPl : (partsK k).data.toList.length = (partsK k).size := by rw [Array.length_toList]; rfl
  have cv : ∀ j, j < (partsK k).size → (chk l (formL k) j ↔ (1 + j < l.length ∧ (rdT l ((1 + j : Nat) : Int)).f0 = ((partsK k).data.toList.map (fun c => wantP c.toNat)).getD j 0)) := by
    intro j hj
    unfold chk
    rw [formL_lt k j hj, Nat.add_comm j 1]
  unfold readL
  rw [if_pos ⟨h0, hk1, by rw [hk]; exact hk0⟩, hk]
  rw [readP_go l _ 1 _ (fun j hj => (cv j (by rw [← hPl]; exact hj)).1 (hp j (by rw [hlen]; omega)))]
  show readEnd s l (1 + (partsK k).size) _ = _
  unfold readEnd
  have he := hp (partsK k).size (by omega)
  unfold chk at he
  rw [formL_end] at he
  rw [if_pos ⟨by rw [Nat.add_comm]; exact he.1, by rw [Nat.add_comm]; exact he.2⟩, hlen, Nat.add_comm 1]
  rfl
end Go.Proofs.YtdphomiljkclbaaDoor
