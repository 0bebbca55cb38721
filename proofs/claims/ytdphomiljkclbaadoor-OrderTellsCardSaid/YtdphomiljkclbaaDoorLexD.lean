/- Lemmas and contracts for the functions of one layer of the program, used by the law's proof. No conditions beyond those typed. -/
import Derived.Test.YtdphomiljkclbaaDoorLexC
namespace Go.Proofs.YtdphomiljkclbaaDoor
set_option linter.unusedVariables false
set_option linter.unusedSimpArgs false
open Go.RowKit Go.Proofs.YtdphomiljkclbaaDoorW.PrintWords Go.Proofs.YtdphomiljkclbaaDoorW.PrintLast Go.Proofs.YtdphomiljkclbaaDoorW.PrintMore Go.Proofs.YtdphomiljkclbaaDoor.P

def okS (s : ByteArray) (i : Nat) : Bool :=
  if bt s i == 59 then true else if isLet (bt s i) then decide (runE isInn s i - i ≤ 20) else if isDig (bt s i) then numOk (s.extract i (runE isDig s i)) && !numEnd s i else false
def endS (s : ByteArray) (i : Nat) : Nat := if bt s i == 59 then i + 1 else if isLet (bt s i) then runE isInn s i else runE isDig s i
def tokS (s : ByteArray) (i : Nat) : S47 :=
  if bt s i == 59 then tokAt 3 s i (endS s i) 0 else if isLet (bt s i) then tokAt 1 s i (endS s i) 0 else tokAt 2 s i (endS s i) (numV (s.extract i (endS s i)))

theorem one_no (s : ByteArray) (i : Nat) (hi : i < s.size) (hs : s.size ≤ 140737488351232) (h : okS s i = false) (w : World) :
    Calls Tryd.prog 31 #[.string s, .int .i64 i] w fun e w' => (∃ t, e = .returned (.tuple #[tokV t, .bool false])) ∧ Below w.heap.size w w' := by
  unfold okS at h
  cases h1 : (bt s i == 59) <;> simp only [h1, if_true, if_false, Bool.false_eq_true] at h
  · cases h2 : isLet (bt s i) <;> simp only [h2, if_true, if_false, Bool.false_eq_true] at h
    · cases h3 : isDig (bt s i) <;> simp only [h3, if_true, if_false, Bool.false_eq_true] at h
      · exact one_other s i hi hs h1 h2 h3 w
      · exact (one_digit s i hi hs h3 w).mono fun e w' ⟨he, hb⟩ => ⟨⟨_, h ▸ he⟩, hb⟩
    · exact (one_letter s i hi hs h2 w).mono fun e w' ⟨he, hb⟩ => ⟨⟨_, h ▸ he⟩, hb⟩
  · cases h
theorem one_ok (s : ByteArray) (i : Nat) (hi : i < s.size) (hs : s.size ≤ 140737488351232) (h : okS s i = true) (w : World) :
    Calls Tryd.prog 31 #[.string s, .int .i64 i] w fun e w' => e = .returned (.tuple #[tokV (tokS s i), .bool true]) ∧ Below w.heap.size w w' := by
  unfold okS at h
  unfold tokS endS
  cases h1 : (bt s i == 59) <;> simp only [h1, if_true, if_false, Bool.false_eq_true] at h ⊢
  · cases h2 : isLet (bt s i) <;> simp only [h2, if_true, if_false, Bool.false_eq_true] at h ⊢
    · cases h3 : isDig (bt s i) <;> simp only [h3, if_true, if_false, Bool.false_eq_true] at h ⊢
      exact (one_digit s i hi hs h3 w).mono fun e w' ⟨he, hb⟩ => ⟨by rw [he, h], hb⟩
    · exact (one_letter s i hi hs h2 w).mono fun e w' ⟨he, hb⟩ => ⟨by rw [he, h], hb⟩
  · exact one_sign s i hi hs (by simpa using h1) w
theorem endS_gt (s : ByteArray) (i : Nat) (hi : i < s.size) (h : okS s i = true) : i < endS s i ∧ endS s i ≤ s.size := by
  unfold okS at h
  unfold endS
  cases h1 : (bt s i == 59) <;> simp only [h1, if_true, if_false, Bool.false_eq_true] at h ⊢
  · cases h2 : isLet (bt s i) <;> simp only [h2, if_true, if_false, Bool.false_eq_true] at h ⊢
    · cases h3 : isDig (bt s i) <;> simp only [h3, if_true, if_false, Bool.false_eq_true] at h ⊢
      · exact ⟨runE_pos hi h3, runE_le _ _ _ (by omega)⟩
    · exact ⟨runE_pos hi (let_inn h2), runE_le _ _ _ (by omega)⟩
  · omega
theorem tokS_text (s : ByteArray) (i : Nat) : (tokS s i).f1 = s.extract i (endS s i) ∧ (tokS s i).f3 = i := by
  unfold tokS
  split
  · exact ⟨rfl, rfl⟩
  · split <;> exact ⟨rfl, rfl⟩
theorem tokS_size (s : ByteArray) (i : Nat) (hi : i < s.size) (h : okS s i = true) : (tokS s i).f1.size = endS s i - i := by
  have := endS_gt s i hi h
  rw [(tokS_text s i).1, ByteArray.size_extract]
  omega

/-- The tokens from a place on, n of them being there already; or the place of what is none, and how. -/
def lexG (s : ByteArray) : Nat → Nat → Nat → List S47 ⊕ (Nat × Int)
  | 0, _, _ => .inl []
  | f + 1, n, i =>
    if i < s.size then
      if bt s i == 32 || bt s i == 10 then lexG s f n (i + 1)
      else if okS s i then
        if n = 5000 then .inr (i, 4)
        else match lexG s f (n + 1) (endS s i) with
          | .inl l => .inl (tokS s i :: l)
          | .inr e => .inr e
      else .inr (i, 2)
    else .inl []
theorem lexG_fuel (s : ByteArray) : ∀ f f' n i, s.size - i ≤ f → s.size - i ≤ f' → lexG s f n i = lexG s f' n i := by
  intro f
  induction f with
  | zero =>
    intro f' n i h h'
    cases f' with
    | zero => rfl
    | succ f' => simp only [lexG]; rw [if_neg (by omega)]
  | succ f ih =>
    intro f' n i h h'
    cases f' with
    | zero => simp only [lexG]; rw [if_neg (by omega)]
    | succ f' =>
      simp only [lexG]
      split
      · rename_i hi
        split
        · exact ih _ _ _ (by omega) (by omega)
        · split
          · rename_i hok
            have := endS_gt s i hi hok
            rw [ih f' (n + 1) (endS s i) (by omega) (by omega)]
          · rfl
      · rfl
def lexAt (s : ByteArray) (n i : Nat) : List S47 ⊕ (Nat × Int) := lexG s (s.size - i) n i
theorem lexAt_end {s : ByteArray} {n i : Nat} (h : ¬ i < s.size) : lexAt s n i = .inl [] := by
  unfold lexAt
  rw [show s.size - i = 0 by omega]; rfl
theorem lexAt_step {s : ByteArray} {n i : Nat} (h : i < s.size) : lexAt s n i =
    if bt s i == 32 || bt s i == 10 then lexAt s n (i + 1)
    else if okS s i then
        if n = 5000 then .inr (i, 4)
        else match lexAt s (n + 1) (endS s i) with
          | .inl l => .inl (tokS s i :: l)
          | .inr e => .inr e
      else .inr (i, 2) := by
  unfold lexAt
  obtain ⟨f, hf⟩ : ∃ f, s.size - i = f + 1 := ⟨s.size - i - 1, by omega⟩
  rw [hf]
  simp only [lexG]
  rw [if_pos h]
  split
  · exact lexG_fuel s _ _ _ _ (by omega) (by omega)
  · split
    · rename_i hok
      have := endS_gt s i h hok
      rw [lexG_fuel s f (s.size - endS s i) (n + 1) (endS s i) (by omega) (by omega)]
    · rfl
def glue (l : List S47) : List S47 ⊕ (Nat × Int) → List S47 ⊕ (Nat × Int)
  | .inl l' => .inl (l ++ l')
  | .inr e => .inr e
theorem glue_nil (x : List S47 ⊕ (Nat × Int)) : glue [] x = x := by cases x <;> rfl
theorem glue_cons (l : List S47) (t : S47) (x : List S47 ⊕ (Nat × Int)) : glue l (match x with | .inl l => .inl (t :: l) | .inr e => .inr e) = glue (l ++ [t]) x := by cases x <;> simp [glue]
/-- What Lex tells. -/
def lexR (s : ByteArray) : List S47 × Int × Int :=
  match lexAt s 0 0 with
  | .inl l => (l, 0, 0)
  | .inr (i, e) => ([], i, e)
theorem lexAt_len (s : ByteArray) : ∀ f n i l, s.size - i ≤ f → n ≤ 5000 → lexAt s n i = .inl l → n + l.length ≤ 5000 := by
  intro f
  induction f with
  | zero =>
    intro n i l h hn he
    rw [lexAt_end (by omega)] at he
    cases he
    simpa using hn
  | succ f ih =>
    intro n i l h hn he
    by_cases hi : i < s.size
    · rw [lexAt_step hi] at he
      split at he
      · exact ih _ _ _ (by omega) hn he
      · split at he
        · rename_i hok
          have := endS_gt s i hi hok
          split at he
          · cases he
          · cases hx : lexAt s (n + 1) (endS s i) with
            | inl l' =>
              rw [hx] at he
              cases he
              have := ih _ _ _ (by omega) (by omega) hx
              simp only [List.length_cons]
              omega
            | inr e => rw [hx] at he; cases he
        · cases he
    · rw [lexAt_end hi] at he
      cases he
      simpa using hn

theorem tok_info : (Tryd.prog.info? 47).map (fun i => (i.zero, i.size, i.bytes)) = some (some (.agg #[(.int .i64 0), (.string ⟨#[]⟩), (.int .i64 0), (.int .i64 0)]), 4, 40) := by kernel_rfl
theorem box_cell {w1 w2 : World} {cs : Array Value} {t : TypeId} {row : Option Nat} (hg : (w1.alloc (.cells cs t)).grownBy w2 row) (hr : ∀ k, row = some k → k < w1.heap.size) (j : Nat) : w2.cell? ⟨w1.heap.size, j, none⟩ = cs[j]? := by
  refine blk_cell (t := t) (cs := cs) ?_ j
  exact blk_grown (blk_new w1 (.cells cs t)) hg (fun h => by have := hr _ h.symm; omega)

set_option maxHeartbeats 1000000 in
theorem Lex_any (s : ByteArray) (hs : s.size ≤ 140737488351232) (w : World) :
    Calls Tryd.prog 19 #[.string s] w fun e w' => ∃ v, e = .returned (.tuple #[v, .int .i64 (lexR s).2.1, .int .i64 (lexR s).2.2]) ∧ Kd.R k47 47 w' w.heap.size (fun _ => True) v (lexR s).1 ∧ Below w.heap.size w w' := by
  have hu := Tryd.underlying47
  go_enter Tryd.func19, Tryd.ntmps19
  go_wp2; go_step3; go_wp2; go_step3; go_wp2
  go_loopw [5, 6] (fun v i w' => ∃ (l : List S47) (k : Nat), i = .int .i64 k ∧ k ≤ s.size ∧ l.length ≤ 5000 ∧ Aside0 (lexAt s 0 0 = glue l (lexAt s l.length k)) ∧ Aside0 (Kd.R k47 47 w' w.heap.size (fun _ => True) v l) ∧ Aside0 (Below w.heap.size w w')) (fun _ i _ => s.size - (intOf i).toNat)
  case atStart => exact ⟨[], 0, rfl, by omega, by simp, ⟨(glue_nil _).symm⟩, ⟨Kd.R_nil _ _ _ _ _⟩, ⟨Below.refl _ _⟩⟩
  case round =>
    obtain ⟨l, k, rfl, hk, hl, HL, HO, HB⟩ := hrel
    by_cases hlt : k < s.size
    · have hb : ((s[k].toNat : Nat) : Int) = bt s k := by simp [bt, hlt]
      have HS := Lib.hid (lexAt_step (n := l.length) hlt)
      cases h1 : (bt s k == 32)
      · cases h2 : (bt s k == 10)
        · rw [h1, h2] at HS
          cases hok : okS s k
          · rw [hok] at HS
            go_wp2_with (first | (go_at_call 31; refine (one_no _ _ hlt hs hok _).mono ?_; rintro e w1 ⟨⟨⟨t0, t1, t2, t3⟩, rfl⟩, hb1⟩; have HB1 := Lib.hid hb1; clear hb1))
            rw [Exit.noGoto_ret]
            go_ret3
            have hR : lexR s = ([], (k : Int), 2) := by unfold lexR; rw [HL.out, HS.out]; rfl
            rw [hR]
            exact ⟨_, rfl, Kd.R_nil _ _ _ _ _, below_alloc (HB.out.trans (HB1.out.mono HB.out.size)) _⟩
          · rw [hok] at HS
            have h5 := endS_gt s k hlt hok
            have h6 := Lib.hid (tokS_size s k hlt hok)
            have hone := Lib.hid (one_ok s k hlt hs hok)
            obtain ⟨⟨t0, t1, t2, t3⟩, ht⟩ : ∃ t, t = tokS s k := ⟨_, rfl⟩
            rw [← ht] at h6 hone HS
            have HT := Lib.hid ht
            clear ht
            simp only [] at h6
            by_cases h7 : l.length = 5000
            · have hlen : ((l.length : Int) == 5000) = true := by simp; omega
              obtain ⟨A, c, rfl, hlc, hC⟩ := Kd.R_reads HO.out
              clear hC
              have H7 := Lib.hid h7
              clear h7
              go_wp2_with (first
                | (go_at_call 31; refine (hone.out _).mono ?_; rintro e w1 ⟨rfl, hb1⟩; have HB1 := Lib.hid hb1; clear hb1))
              rw [Exit.noGoto_ret]
              go_ret3
              have hR : lexR s = ([], (k : Int), 4) := by unfold lexR; rw [HL.out, HS.out]; simp only [Bool.or_self, Bool.false_eq_true, if_false, if_true]; rw [if_pos H7.out]; rfl
              rw [hR]
              exact ⟨_, rfl, Kd.R_nil _ _ _ _ _, below_alloc (HB.out.trans (HB1.out.mono HB.out.size)) _⟩
            · have hlen : ((l.length : Int) == 5000) = false := by simp; omega
              have H7 := Lib.hid h7
              clear h7
              obtain ⟨A, c, rfl, hlc, hC⟩ := Kd.R_reads HO.out
              clear hC
              have hlt2 := Lib.hid (Kd.R_lt HO.out)
              have hts : k + t1.size ≤ s.size := by have := h6.out; omega
              have hl5 : l.length < 5000 := by have := H7.out; omega
              go_wp2_with (first
                | (go_at_call 31; refine (hone.out _).mono ?_; rintro e w1 ⟨rfl, hb1⟩; have HB1 := Lib.hid hb1; clear hb1)
                | (at_builtin; refine Kd.R_append k47 (w0 := w) w.heap.size rfl (.tmp 40) (.tmp 42) 43 47 _ 40 rfl Tryd.underlying43 tok_info rfl (by decide) (by omega) (.slice A l.length c) l ⟨t0, t1, t2, t3⟩ [.int .i64 t0, .string t1, .int .i64 t2, .int .i64 t3] (fun _ => True) (fun _ => False) rfl (by simp [Act.eval]) (k47_mkM _ _ _ _) (fun _ hk => hk.elim) (fun _ _ => trivial) (Kd.R_alloc (Kd.R_below HO.out HB1.out) _) (below_alloc (HB.out.trans (HB1.out.mono HB.out.size)) _) ((below_alloc (HB.out.trans (HB1.out.mono HB.out.size)) _).size) (by omega) ?_; intro v1 w2 ho hb2 hg hat; have hbx := box_cell hg (fun k hk => Nat.lt_of_lt_of_le (hlt2.out k hk) HB1.out.size) 1; have HO2 := Aside0.mk ho; have HB2 := Aside0.mk hb2; clear ho hb2 hg hat))
              go_roundw
              case rel => exact ⟨l ++ [⟨t0, t1, t2, t3⟩], endS s k, by have := h6.out; congr 1; omega, by omega, by simp; omega, ⟨by rw [HL.out, HS.out]; simp only [Bool.or_self, Bool.false_eq_true, if_false, if_true]; rw [if_neg H7.out, glue_cons]; simp⟩, HO2, HB2⟩
              case measure => have := h6.out; simp [intOf]; omega
        · rw [h1, h2] at HS
          go_wp2
          go_roundw
          case rel => exact ⟨l, k + 1, by go_num, by omega, hl, ⟨by rw [HL.out, HS.out]; rfl⟩, HO, HB⟩
          case measure => simp [intOf]; omega
      · rw [h1] at HS
        go_wp2
        go_roundw
        case rel => exact ⟨l, k + 1, by go_num, by omega, hl, ⟨by rw [HL.out, HS.out]; rfl⟩, HO, HB⟩
        case measure => simp [intOf]; omega
    · have HE := Lib.hid (lexAt_end (n := l.length) hlt)
      go_wp2
      rw [Exit.noGoto_ret]
      go_ret3
      have hR : lexR s = (l, 0, 0) := by unfold lexR; rw [HL.out, HE.out]; simp [glue]
      rw [hR]
      exact ⟨_, rfl, HO.out, HB.out⟩
end Go.Proofs.YtdphomiljkclbaaDoor
