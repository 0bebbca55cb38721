/- Lemmas and contracts for the functions of one layer of the program, used by the law's proof. No conditions beyond those typed. -/
import Derived.Test.YtdphomiljkclbaaDoorOrdF
import Derived.Test.YtdphomiljkclbaaDoorOrdC
import Derived.Test.YtdphomiljkclbaaDoorLexU
namespace Go.Proofs.YtdphomiljkclbaaDoor
set_option linter.unusedVariables false
set_option linter.unusedSimpArgs false
open Go.RowKit Go.Proofs.YtdphomiljkclbaaDoorW.PrintWords Go.Proofs.YtdphomiljkclbaaDoorW.PrintLast Go.Proofs.YtdphomiljkclbaaDoorW.PrintMore Go.Proofs.YtdphomiljkclbaaDoor.P

theorem bt_al (s t : ByteArray) (k : Nat) (h : k < s.size) : bt (s ++ t) k = bt s k := by
  simp only [bt, Int.toNat_natCast]
  rw [dif_pos h, dif_pos (by rw [ByteArray.size_append]; omega)]
  rw [ByteArray.getElem_append_left h]
theorem bt_ar (s t : ByteArray) (k : Nat) (h : k < t.size) : bt (s ++ t) (s.size + k : Nat) = bt t k := by
  simp only [bt, Int.toNat_natCast]
  rw [dif_pos h, dif_pos (by rw [ByteArray.size_append]; omega)]
  rw [ByteArray.getElem_append_right (by omega)]
  simp
/-- A text that is one token. -/
def isTok (x : ByteArray) (kd v : Int) : Prop := 0 < x.size ∧ okS x 0 = true ∧ endS x 0 = x.size ∧ (tokS x 0).f0 = kd ∧ (tokS x 0).f1 = x ∧ (tokS x 0).f2 = v ∧ gap (bt x 0) = false
theorem tok_laid {x : ByteArray} {kd v : Int} (h : isTok x kd v) (a b : ByteArray) (hb : b.size = 0 ∨ isInn (bt b 0) = false) :
    okS (a ++ x ++ b) a.size = true ∧ endS (a ++ x ++ b) a.size = a.size + x.size ∧ tokS (a ++ x ++ b) a.size = ⟨kd, x, v, a.size⟩ ∧ gap (bt (a ++ x ++ b) a.size) = false := by
  obtain ⟨h0, hok, hend, hf0, hf1, hf2, hg⟩ := h
  have hsz : (a ++ x ++ b).size = a.size + x.size + b.size := by rw [ByteArray.size_append, ByteArray.size_append]
  have hbt : ∀ k : Nat, k < x.size → bt (a ++ x ++ b) (a.size + k : Nat) = bt x (0 + k : Nat) := by
    intro k hk
    rw [bt_al _ _ _ (by rw [ByteArray.size_append]; omega), bt_ar a x k hk, Nat.zero_add]
  have hm := tok_move (s := x) (t := a ++ x ++ b) (i := 0) (j := a.size) h0 hok (by rw [hend, hsz]; omega) (fun k hk => hbt k (by rw [hend] at hk; omega)) (by
    rw [hend, Nat.sub_zero]
    rcases hb with hb | hb
    · right; left; omega
    · rcases Nat.eq_zero_or_pos b.size with h2 | h2
      · right; left; omega
      · right; right
        have e : (a ++ x).size = a.size + x.size := ByteArray.size_append
        have h3 := bt_ar (a ++ x) b 0 h2
        rw [Nat.add_zero, e] at h3
        rw [h3]; exact hb)
  refine ⟨hm.1, by rw [hm.2.1, hend, Nat.sub_zero], ?_, ?_⟩
  · rw [hm.2.2]
    unfold atPut
    rw [hf0, hf1, hf2]
  · have h3 := hbt 0 h0
    rw [Nat.add_zero] at h3
    rw [h3]; exact hg

abbrev Dt := Int × ByteArray × Int
def dat (t : Tk) : Dt := (t.f0, t.f1, t.f2)
def sp : List Dt → ByteArray
  | [] => ⟨#[]⟩
  | d :: r => ⟨#[32]⟩ ++ d.2.1 ++ sp r
theorem app_nil (a : ByteArray) : a ++ (⟨#[]⟩ : ByteArray) = a := by apply ByteArray.ext; simp
theorem sp_first (r : List Dt) (b : ByteArray) (hb : b.size = 0 ∨ isInn (bt b 0) = false) : (sp r ++ b).size = 0 ∨ isInn (bt (sp r ++ b) 0) = false := by
  cases r with
  | nil =>
    have e : sp [] ++ b = b := by apply ByteArray.ext; simp [sp]
    rw [e]; exact hb
  | cons d r =>
    right
    have e : sp (d :: r) ++ b = ⟨#[32]⟩ ++ (d.2.1 ++ sp r ++ b) := by simp [sp, ByteArray.append_assoc]
    rw [e]
    have h := bt_al ⟨#[32]⟩ (d.2.1 ++ sp r ++ b) 0 (by decide)
    have h2 : bt (⟨#[32]⟩ ++ (d.2.1 ++ sp r ++ b)) 0 = bt ⟨#[32]⟩ 0 := h
    rw [h2]
    decide
theorem lay_sp (b : ByteArray) (hb : b.size = 0 ∨ isInn (bt b 0) = false) : ∀ (r : List Dt), (∀ d ∈ r, isTok d.2.1 d.1 d.2.2) → ∀ a : ByteArray, ∃ l, Pre (a ++ sp r ++ b) a.size l (a.size + (sp r).size) ∧ l.map dat = r := by
  intro r
  induction r with
  | nil =>
    intro _ a
    exact ⟨[], (Pre.nil : Pre (a ++ sp [] ++ b) a.size [] a.size), rfl⟩
  | cons d r ih =>
    intro ht a
    obtain ⟨l, hp, hl⟩ := ih (fun x hx => ht x (by simp [hx])) (a ++ ⟨#[32]⟩ ++ d.2.1)
    have hT := tok_laid (ht d (by simp)) (a ++ ⟨#[32]⟩) (sp r ++ b) (sp_first r b hb)
    have e1 : a ++ ⟨#[32]⟩ ++ d.2.1 ++ sp r ++ b = a ++ sp (d :: r) ++ b := by simp [sp, ByteArray.append_assoc]
    have e2 : a ++ ⟨#[32]⟩ ++ d.2.1 ++ (sp r ++ b) = a ++ sp (d :: r) ++ b := by simp [sp, ByteArray.append_assoc]
    rw [e1] at hp
    rw [e2] at hT
    have ea : (a ++ ⟨#[32]⟩ : ByteArray).size = a.size + 1 := by rw [ByteArray.size_append]; rfl
    have eb : (a ++ ⟨#[32]⟩ ++ d.2.1 : ByteArray).size = a.size + 1 + d.2.1.size := by rw [ByteArray.size_append, ea]
    have ec : (sp (d :: r)).size = 1 + d.2.1.size + (sp r).size := by
      show (⟨#[32]⟩ ++ d.2.1 ++ sp r : ByteArray).size = _
      rw [ByteArray.size_append, ByteArray.size_append]; rfl
    have hts : (a ++ sp (d :: r) ++ b).size = a.size + (sp (d :: r)).size + b.size := by rw [ByteArray.size_append, ByteArray.size_append]
    rw [ea] at hT
    rw [eb] at hp
    obtain ⟨hok, hend, htok, hgp⟩ := hT
    have h32 : bt (a ++ sp (d :: r) ++ b) (a.size : Nat) = 32 := by
      have e3 : a ++ sp (d :: r) ++ b = a ++ (⟨#[32]⟩ ++ (d.2.1 ++ sp r ++ b)) := by simp [sp, ByteArray.append_assoc]
      rw [e3]
      have h := bt_ar a (⟨#[32]⟩ ++ (d.2.1 ++ sp r ++ b)) 0 (by rw [ByteArray.size_append]; show 0 < 1 + _; omega)
      rw [Nat.add_zero] at h
      rw [h, bt_al ⟨#[32]⟩ _ 0 (by decide)]
      decide
    refine ⟨tokS (a ++ sp (d :: r) ++ b) (a.size + 1) :: l, Pre.cons (a.size + 1) (by omega) (by have := (ht d (by simp)).1; omega) ?_ hgp hok ?_, ?_⟩
    · intro j h1 h2
      obtain rfl : j = a.size := by omega
      rw [h32]; rfl
    · rw [hend, ec, show a.size + (1 + d.2.1.size + (sp r).size) = a.size + 1 + d.2.1.size + (sp r).size by omega]
      exact hp
    · rw [List.map_cons, hl, htok]
      rfl
/-- The tokens of a word and more, with a tail. -/
theorem lay_all (w : ByteArray) (kd v : Int) (hw : isTok w kd v) (r : List Dt) (hr : ∀ d ∈ r, isTok d.2.1 d.1 d.2.2) (b : ByteArray) (hb : b.size = 0 ∨ isInn (bt b 0) = false) :
    ∃ l, Pre (w ++ sp r ++ b) 0 l (w.size + (sp r).size) ∧ l.map dat = (kd, w, v) :: r := by
  obtain ⟨l, hp, hl⟩ := lay_sp b hb r hr w
  have hT := tok_laid hw ⟨#[]⟩ (sp r ++ b) (sp_first r b hb)
  have e1 : (⟨#[]⟩ : ByteArray) ++ w ++ (sp r ++ b) = w ++ sp r ++ b := by apply ByteArray.ext; simp
  rw [e1] at hT
  obtain ⟨hok, hend, htok, hgp⟩ := hT
  have e0 : (⟨#[]⟩ : ByteArray).size = 0 := rfl
  rw [e0] at hok hend htok hgp
  have hts : (w ++ sp r ++ b).size = w.size + (sp r).size + b.size := by rw [ByteArray.size_append, ByteArray.size_append]
  refine ⟨tokS (w ++ sp r ++ b) 0 :: l, Pre.cons 0 (by omega) (by have := hw.1; omega) (fun j h1 h2 => by omega) hgp hok ?_, ?_⟩
  · rw [hend, Nat.zero_add]; exact hp
  · rw [List.map_cons, hl, htok]; rfl
theorem pre_toks {s : ByteArray} {i q : Nat} {l l' : List Tk} (h : Pre s i l q) (h' : Toks s q l') : Toks s i (l ++ l') := by
  induction h with
  | nil => exact h'
  | cons p h0 h1 hg hng hok h ih => exact Toks.cons p h0 h1 hg hng hok (ih h')
theorem semi_tok : isTok ⟨#[59]⟩ 3 0 := ⟨by decide, by kernel_rfl, by kernel_rfl, by kernel_rfl, by kernel_rfl, by kernel_rfl, by kernel_rfl⟩
theorem name_tok {x : ByteArray} (h : nameR x = true) : isTok x 1 0 := by
  unfold nameR at h
  simp only [Bool.and_eq_true, decide_eq_true_eq] at h
  obtain ⟨⟨⟨h0, h20⟩, hl⟩, hr⟩ := h
  have hnl := let_not hl
  have e59 : (bt x ((0 : Nat) : Int) == 59) = false := hnl.2
  have el : isLet (bt x ((0 : Nat) : Int)) = true := hl
  have hend : endS x 0 = x.size := by unfold endS; rw [e59, el]; exact hr
  have htok : tokS x 0 = tokAt 1 x 0 x.size 0 := by unfold tokS; rw [e59, el, hend]; rfl
  have hex : x.extract 0 x.size = x := by
    apply bytes_ext
    · rw [ByteArray.size_extract]; omega
    · intro k hk
      rw [ByteArray.size_extract] at hk
      rw [bt_extract x 0 x.size k (by omega) (by omega), Nat.zero_add]
  refine ⟨h0, ?_, hend, by rw [htok]; rfl, by rw [htok]; exact hex, by rw [htok]; rfl, ?_⟩
  · unfold okS
    rw [e59, el, hr]
    simpa using h20
  · cases hg : gap (bt x 0)
    · rfl
    · have := (gap_not hg).2.2
      rw [hl] at this; cases this
/-- The decimal digits, with fuel. -/
def dd : Nat → Nat → List UInt8
  | 0, _ => []
  | f + 1, u => if u < 10 then [UInt8.ofNat (48 + u)] else dd f (u / 10) ++ [UInt8.ofNat (48 + u % 10)]
theorem dd_eq : ∀ f u, u < 10 ^ f → 0 < f → Lib.decDigits u = dd f u := by
  intro f
  induction f with
  | zero => intro u _ h; omega
  | succ f ih =>
    intro u hu _
    unfold Lib.decDigits dd
    split
    · rfl
    · rename_i h
      rcases Nat.eq_zero_or_pos f with rfl | hf
      · simp at hu; omega
      · rw [ih (u / 10) (by rw [Nat.pow_succ] at hu; omega) hf]
def numTx (n : Nat) : ByteArray := ⟨(dd 4 n).toArray⟩
def numChk (n : Nat) : Bool := decide (0 < (numTx n).size) && okS (numTx n) 0 && (endS (numTx n) 0 == (numTx n).size) && ((tokS (numTx n) 0).f0 == 2) && ((tokS (numTx n) 0).f1.data.toList == (numTx n).data.toList) && ((tokS (numTx n) 0).f2 == (n : Int)) && !(gap (bt (numTx n) 0))
theorem numChk_all : (List.range 1001).all numChk = true := by kernel_rfl
theorem num_tok (n : Int) (h1 : 1 ≤ n) (h2 : n ≤ 1000) : isTok ⟨(Lib.itoa n).toArray⟩ 2 n := by
  have e : Lib.itoa n = dd 4 n.toNat := by
    unfold Lib.itoa
    rw [if_neg (by omega), dd_eq 4 _ (by omega) (by omega)]
  have hc := List.all_eq_true.1 numChk_all n.toNat (by rw [List.mem_range]; omega)
  rw [e]
  have hn : ((n.toNat : Nat) : Int) = n := by omega
  unfold numChk at hc
  rw [hn] at hc
  simp only [Bool.and_eq_true, decide_eq_true_eq, beq_iff_eq, Bool.not_eq_true'] at hc
  obtain ⟨⟨⟨⟨⟨⟨a1, a2⟩, a3⟩, a4⟩, a5⟩, a6⟩, a7⟩ := hc
  exact ⟨a1, a2, a3, a4, ByteArray.ext (Array.toList_inj.1 a5), a6, a7⟩
def valP (o : Ord) (c : Nat) : Int := if (c : Int) = 110 then o.n else 0
def dsP (o : Ord) (l : List UInt8) : List Dt := l.map fun c => (wantP c.toNat, textP o c.toNat, valP o c.toNat)
theorem sp_join (o : Ord) : ∀ l : List UInt8, Lib.joinTail [32] ((textsO o l).map (·.data.toList)) = (sp (dsP o l)).data.toList := by
  intro l
  induction l with
  | nil => rfl
  | cons c l ih =>
    have e : sp (dsP o (c :: l)) = ⟨#[32]⟩ ++ textP o c.toNat ++ sp (dsP o l) := rfl
    rw [e]
    simp only [ByteArray.data_append, Array.toList_append]
    rw [← ih]
    simp [textsO, Lib.joinTail]
theorem text_eq (o : Ord) : joined (wordsO o) = wordB o.k ++ sp (dsP o (partsK o.k).data.toList) := by
  apply ByteArray.ext
  apply Array.toList_inj.1
  show (Lib.join ((wordsO o).map (·.data.toList)) [32]).toArray.toList = _
  rw [ByteArray.data_append, Array.toList_append, ← sp_join]
  unfold wordsO
  rw [List.map_cons, Lib.join_cons]
theorem same_eq {a b : Ord} (h : a.same b = true) : a = b := by
  obtain ⟨x0, x1, x2, x3, x4⟩ := a
  obtain ⟨y0, y1, y2, y3, y4⟩ := b
  unfold Ord.same at h
  simp only [Bool.and_eq_true, beq_iff_eq, Lib.toList_data] at h
  obtain ⟨h0, h1, h2, h3, h4⟩ := h
  rw [h0, ByteArray.ext (Array.toList_inj.1 h1), ByteArray.ext (Array.toList_inj.1 h2), ByteArray.ext (Array.toList_inj.1 h3), h4]
theorem same_self (a : Ord) : a.same a = true := by unfold Ord.same; simp
theorem mayO_kept {o : Ord} (h : mayO o = true) : o = keptO o (partsK o.k) ∧ (o.k = 3 → 1 ≤ o.n ∧ o.n ≤ 1000) := by
  obtain ⟨_, _, hb, _⟩ := mayO_k h
  unfold badO at hb
  simp only [Bool.or_eq_false_iff, Bool.not_eq_false', Bool.and_eq_false_iff, decide_eq_false_iff_not, beq_eq_false_iff_ne] at hb
  refine ⟨same_eq hb.1, fun h3 => ?_⟩
  rcases hb.2 with h | h
  · exact absurd h3 h
  · omega
theorem part_n {k : Int} (h1 : 1 ≤ k) (h9 : k ≤ 9) (c : UInt8) (hc : c ∈ (partsK k).data.toList) (hn : c.toNat = 110) : k = 3 := by
  obtain rfl | rfl | rfl | rfl | rfl | rfl | rfl | rfl | rfl : k = 1 ∨ k = 2 ∨ k = 3 ∨ k = 4 ∨ k = 5 ∨ k = 6 ∨ k = 7 ∨ k = 8 ∨ k = 9 := by omega
  all_goals first
    | rfl
    | (exfalso
       simp [partsK] at hc
       try rcases hc with rfl | rfl | rfl
       all_goals (try subst hc)
       all_goals (revert hn; decide))
theorem mayL_mem {o : Ord} : ∀ {l : List UInt8}, mayL o l = true → ∀ c ∈ l, (c.toNat : Int) = 110 ∨ nameR (textO o c.toNat) = true := by
  intro l
  induction l with
  | nil => intro _ c hc; cases hc
  | cons d l ih =>
    intro h c hc
    unfold mayL at h
    simp only [Bool.and_eq_true, Bool.or_eq_true, beq_iff_eq] at h
    rcases List.mem_cons.1 hc with rfl | hc
    · exact h.1
    · exact ih h.2 c hc
theorem parts_tok {o : Ord} (h : mayO o = true) : ∀ d ∈ dsP o (partsK o.k).data.toList, isTok d.2.1 d.1 d.2.2 := by
  obtain ⟨h1, h9, _, hl⟩ := mayO_k h
  intro d hd
  simp only [dsP, List.mem_map] at hd
  obtain ⟨c, hc, rfl⟩ := hd
  have hcc := part_or (fun i hi => by rcases partsK_bytes o.k i hi with h | h | h | h <;> simp [h]) c hc
  have hm := mayL_mem hl c hc
  rcases hcc with e | e | e | e
  · rw [e] at hm ⊢
    have := hm.resolve_left (by decide)
    have e1 : textP o 99 = textO o 99 := rfl
    show isTok (textP o 99) 1 0
    rw [e1]; exact name_tok this
  · rw [e] at hm ⊢
    have := hm.resolve_left (by decide)
    have e1 : textP o 101 = textO o 101 := rfl
    show isTok (textP o 101) 1 0
    rw [e1]; exact name_tok this
  · rw [e] at hm ⊢
    have := hm.resolve_left (by decide)
    have e1 : textP o 117 = textO o 117 := rfl
    show isTok (textP o 117) 1 0
    rw [e1]; exact name_tok this
  · have h3 := (mayO_kept h).2 (part_n h1 h9 c hc e)
    rw [e]
    exact num_tok o.n h3.1 h3.2
theorem dat_at {l : List Tk} {i : Nat} {d : Dt} {r : List Dt} (h : (l.drop i).map dat = d :: r) : i < l.length ∧ dat (rdT l i) = d ∧ (l.drop (i + 1)).map dat = r := by
  rcases Nat.lt_or_ge i l.length with hi | hi
  · rw [List.drop_eq_getElem_cons hi, List.map_cons] at h
    have e : rdT l (i : Int) = l[i] := by simp [rdT, rd_T47, hi]
    injection h with h1 h2
    exact ⟨hi, by rw [e]; exact h1, h2⟩
  · rw [List.drop_eq_nil_of_le hi] at h; cases h
theorem readP_ds (o : Ord) (l : List Tk) (r : List Dt) : ∀ (cs : List UInt8), (∀ c ∈ cs, c.toNat = 99 ∨ c.toNat = 101 ∨ c.toNat = 117 ∨ c.toNat = 110) → ∀ (i : Nat) (o' : Ord), (l.drop i).map dat = dsP o cs ++ r → readP l cs i o' = .inl (keptL o cs o') := by
  intro cs
  induction cs with
  | nil => intro _ i o' _; rfl
  | cons c cs ih =>
    intro hcc i o' h
    obtain ⟨hi, hd, hr⟩ := dat_at (d := (wantP c.toNat, textP o c.toNat, valP o c.toNat)) (r := dsP o cs ++ r) h
    have h0 : (rdT l i).f0 = wantP c.toNat := congrArg (·.1) hd
    have h1 : (rdT l i).f1 = textP o c.toNat := congrArg (·.2.1) hd
    have h2 : (rdT l i).f2 = valP o c.toNat := congrArg (·.2.2) hd
    have hset : setP o' c.toNat (rdT l i) = putO o o' c.toNat := by
      unfold setP putO
      rw [h1, h2]
      rcases hcc c (by simp) with e | e | e | e <;> rw [e] <;> rfl
    rw [readP, if_pos ⟨hi, h0⟩, hset, ih (fun d hd => hcc d (by simp [hd])) (i + 1) _ hr]
    rfl
theorem word_tok (k : Int) (h1 : 1 ≤ k) (h9 : k ≤ 9) : isTok (wordB k) 1 0 :=
  name_tok (kinds (p := fun k => nameR (wordB k) = true) ⟨by kernel_rfl, by kernel_rfl, by kernel_rfl, by kernel_rfl, by kernel_rfl, by kernel_rfl, by kernel_rfl, by kernel_rfl, by kernel_rfl⟩ k h1 h9)
def body (o : Ord) : ByteArray := wordB o.k ++ sp (dsP o (partsK o.k).data.toList)
theorem lexR_toks {s : ByteArray} {l : List Tk} (h : Toks s 0 l) (hl : l.length ≤ 5000) : lexR s = (l, 0, 0) := by
  have := h.ends 0 (by omega)
  unfold lexR
  rw [this]
/-- An order's text, with a tail. -/
theorem read_text (o : Ord) (hm : mayO o = true) (b : ByteArray) (hb : b.size = 0 ∨ isInn (bt b 0) = false) (lb : List Tk) (hlb : lb.length ≤ 100) (hT : Toks (body o ++ b) (body o).size lb) :
    ∃ l : List Tk, l.length = 1 + (partsK o.k).size ∧ readR (body o ++ b) = readEnd (body o ++ b) (l ++ lb) (1 + (partsK o.k).size) o := by
  obtain ⟨h1, h9, _, _⟩ := mayO_k hm
  obtain ⟨l, hp, hl⟩ := lay_all (wordB o.k) 1 0 (word_tok o.k h1 h9) (dsP o (partsK o.k).data.toList) (parts_tok hm) b hb
  have hsz : (body o).size = (wordB o.k).size + (sp (dsP o (partsK o.k).data.toList)).size := by unfold body; rw [ByteArray.size_append]
  rw [hsz] at hT
  have hall := pre_toks hp hT
  have hlen : l.length = 1 + (partsK o.k).size := by
    have := congrArg List.length hl
    rw [List.length_map, List.length_cons] at this
    rw [this]
    unfold dsP
    rw [List.length_map, Array.length_toList]
    show (partsK o.k).size + 1 = _
    omega
  have h3 := partsK_size o.k
  have hlex := lexR_toks hall (by rw [List.length_append]; omega)
  refine ⟨l, hlen, ?_⟩
  have hdrop : ((l ++ lb).drop 0).map dat = ((1, wordB o.k, 0) : Dt) :: (dsP o (partsK o.k).data.toList ++ lb.map dat) := by
    rw [List.drop_zero, List.map_append, hl]; rfl
  obtain ⟨hi, hd, hr⟩ := dat_at hdrop
  have e0 : (rdT (l ++ lb) 0).f0 = 1 := congrArg (·.1) hd
  have e1 : (rdT (l ++ lb) 0).f1 = wordB o.k := congrArg (·.2.1) hd
  have hk := kindB_word o.k h1 h9
  have hcc := part_or (fun i hi => by rcases partsK_bytes o.k i hi with h | h | h | h <;> simp [h]) (P := partsK o.k)
  have hP := readP_ds o (l ++ lb) (lb.map dat) (partsK o.k).data.toList hcc 1 ⟨o.k, ⟨#[]⟩, ⟨#[]⟩, ⟨#[]⟩, 0⟩ hr
  have hkp : keptL o (partsK o.k).data.toList ⟨o.k, ⟨#[]⟩, ⟨#[]⟩, ⟨#[]⟩, 0⟩ = o := (mayO_kept hm).1.symm
  rw [hkp] at hP
  show readR (wordB o.k ++ sp (dsP o (partsK o.k).data.toList) ++ b) = readEnd (wordB o.k ++ sp (dsP o (partsK o.k).data.toList) ++ b) _ _ _
  unfold readR
  rw [hlex]
  rw [if_pos rfl]
  unfold readL
  rw [e1, hk, if_pos ⟨hi, e0, by omega⟩, hP]
theorem semi_toks (u b : ByteArray) (hb : b.size = 0 ∨ isInn (bt b 0) = false) (lb : List Tk) (h : Toks (u ++ ⟨#[59]⟩ ++ b) (u.size + 1) lb) : Toks (u ++ ⟨#[59]⟩ ++ b) u.size ((⟨3, ⟨#[59]⟩, 0, u.size⟩ : Tk) :: lb) := by
  have hT := tok_laid semi_tok u b hb
  obtain ⟨hok, hend, htok, hg⟩ := hT
  rw [← htok]
  refine Toks.cons u.size (Nat.le_refl _) ?_ (fun j h1 h2 => by omega) hg hok (by rw [hend]; exact h)
  rw [ByteArray.size_append, ByteArray.size_append]; show u.size < u.size + 1 + b.size; omega
theorem rd_last (l : List Tk) (t : Tk) (r : List Tk) (n : Nat) (h : l.length = n) : rdT (l ++ t :: r) (n : Int) = t := by
  subst h
  simp [rdT, rd_T47]
theorem text_body (o : Ord) : joined (wordsO o) ++ ⟨#[59]⟩ = body o ++ ⟨#[59]⟩ := by rw [text_eq]; rfl
/-- What is written is read as the same. -/
theorem read_back (o : Ord) (hm : mayO o = true) : readR (body o ++ ⟨#[59]⟩) = (o, 0, 0) := by
  have e : body o ++ ⟨#[59]⟩ ++ (⟨#[]⟩ : ByteArray) = body o ++ ⟨#[59]⟩ := app_nil _
  have hT : Toks (body o ++ ⟨#[59]⟩) (body o).size [⟨3, ⟨#[59]⟩, 0, (body o).size⟩] := by
    have := semi_toks (body o) ⟨#[]⟩ (.inl rfl) [] (Toks.nil (fun j h1 h2 => by
      exfalso
      rw [ByteArray.size_append, ByteArray.size_append] at h2
      have : (⟨#[59]⟩ : ByteArray).size = 1 := rfl
      have : (⟨#[]⟩ : ByteArray).size = 0 := rfl
      omega))
    rw [e] at this
    exact this
  obtain ⟨l, hl, hR⟩ := read_text o hm ⟨#[59]⟩ (.inr (by decide)) _ (by simp) hT
  rw [hR]
  unfold readEnd
  have hrd := rd_last l ⟨3, ⟨#[59]⟩, 0, (body o).size⟩ [] _ hl
  rw [hrd, if_pos ⟨by rw [List.length_append, hl]; simp, rfl⟩, if_neg (by rw [List.length_append, hl]; simp), if_pos hm]
/-- With a space and a line feed behind it. -/
theorem read_space (o : Ord) (hm : mayO o = true) : readR (body o ++ ⟨#[59]⟩ ++ ⟨#[32, 10]⟩) = (o, 0, 0) := by
  have e : body o ++ ⟨#[59]⟩ ++ (⟨#[32, 10]⟩ : ByteArray) = body o ++ ⟨#[59, 32, 10]⟩ := by rw [ByteArray.append_assoc]; rfl
  have hT : Toks (body o ++ ⟨#[59, 32, 10]⟩) (body o).size [⟨3, ⟨#[59]⟩, 0, (body o).size⟩] := by
    have := semi_toks (body o) ⟨#[32, 10]⟩ (.inr (by decide)) [] (Toks.nil (fun j h1 h2 => by
      rw [ByteArray.size_append, ByteArray.size_append] at h2
      have e1 : (⟨#[59]⟩ : ByteArray).size = 1 := rfl
      have e2 : (⟨#[32, 10]⟩ : ByteArray).size = 2 := rfl
      have e3 : (body o ++ ⟨#[59]⟩).size = (body o).size + 1 := by rw [ByteArray.size_append]; rfl
      obtain rfl | rfl : j = (body o ++ ⟨#[59]⟩).size + 0 ∨ j = (body o ++ ⟨#[59]⟩).size + 1 := by omega
      · rw [bt_ar _ _ 0 (by decide)]; decide
      · rw [bt_ar _ _ 1 (by decide)]; decide))
    rw [e] at this
    exact this
  rw [e]
  obtain ⟨l, hl, hR⟩ := read_text o hm ⟨#[59, 32, 10]⟩ (.inr (by decide)) _ (by simp) hT
  rw [hR]
  unfold readEnd
  have hrd := rd_last l ⟨3, ⟨#[59]⟩, 0, (body o).size⟩ [] _ hl
  rw [hrd, if_pos ⟨by rw [List.length_append, hl]; simp, rfl⟩, if_neg (by rw [List.length_append, hl]; simp), if_pos hm]
/-- Without its sign it is none. -/
theorem read_short (o : Ord) (hm : mayO o = true) : readR (body o) = (zeroO, (((body o).size : Nat) : Int), 2) := by
  have e : body o ++ (⟨#[]⟩ : ByteArray) = body o := app_nil _
  have hT : Toks (body o ++ ⟨#[]⟩) (body o).size [] := Toks.nil (fun j h1 h2 => by
    exfalso
    rw [e] at h2
    omega)
  obtain ⟨l, hl, hR⟩ := read_text o hm ⟨#[]⟩ (.inl rfl) _ (by simp) hT
  rw [e] at hR
  rw [hR]
  unfold readEnd placeO
  rw [List.append_nil, if_neg (by rw [hl]; omega), if_neg (by rw [hl]; omega)]
/-- With one sign more it is none. -/
theorem read_long (o : Ord) (hm : mayO o = true) : readR (body o ++ ⟨#[59]⟩ ++ ⟨#[59]⟩) = (zeroO, (((body o).size + 1 : Nat) : Int), 2) := by
  have e : body o ++ ⟨#[59]⟩ ++ (⟨#[59]⟩ : ByteArray) = body o ++ ⟨#[59, 59]⟩ := by rw [ByteArray.append_assoc]; rfl
  have e3 : (body o ++ ⟨#[59]⟩).size = (body o).size + 1 := by rw [ByteArray.size_append]; rfl
  have hT : Toks (body o ++ ⟨#[59, 59]⟩) (body o).size [⟨3, ⟨#[59]⟩, 0, (body o).size⟩, ⟨3, ⟨#[59]⟩, 0, ((body o).size + 1 : Nat)⟩] := by
    have h2 := semi_toks (body o ++ ⟨#[59]⟩) ⟨#[]⟩ (.inl rfl) [] (Toks.nil (fun j h1 h2 => by
      exfalso
      rw [ByteArray.size_append, ByteArray.size_append] at h2
      have : (⟨#[59]⟩ : ByteArray).size = 1 := rfl
      have : (⟨#[]⟩ : ByteArray).size = 0 := rfl
      omega))
    rw [app_nil, e3] at h2
    have := semi_toks (body o) ⟨#[59]⟩ (.inr (by decide)) _ h2
    rw [e] at this
    exact this
  rw [e]
  obtain ⟨l, hl, hR⟩ := read_text o hm ⟨#[59, 59]⟩ (.inr (by decide)) _ (by simp) hT
  rw [hR]
  unfold readEnd placeO
  have hrd := rd_last l ⟨3, ⟨#[59]⟩, 0, (body o).size⟩ [⟨3, ⟨#[59]⟩, 0, ((body o).size + 1 : Nat)⟩] _ hl
  have hrd2 : rdT (l ++ [⟨3, ⟨#[59]⟩, 0, (body o).size⟩, ⟨3, ⟨#[59]⟩, 0, ((body o).size + 1 : Nat)⟩]) ((1 + (partsK o.k).size + 1 : Nat) : Int) = ⟨3, ⟨#[59]⟩, 0, ((body o).size + 1 : Nat)⟩ := by
    have := rd_last (l ++ [⟨3, ⟨#[59]⟩, 0, (body o).size⟩]) ⟨3, ⟨#[59]⟩, 0, ((body o).size + 1 : Nat)⟩ [] (1 + (partsK o.k).size + 1) (by rw [List.length_append, hl]; rfl)
    rw [List.append_assoc] at this
    exact this
  rw [hrd, if_pos ⟨by rw [List.length_append, hl]; simp, rfl⟩, if_pos (by rw [List.length_append, hl]; simp), if_pos (by rw [List.length_append, hl]; simp), hrd2]
theorem place_in (s : ByteArray) (i : Nat) : 0 ≤ placeO s (lexR s).1 i ∧ placeO s (lexR s).1 i ≤ s.size := by
  unfold placeO
  split
  · rename_i h
    exact ((lexR_facts s).1 i h).2
  · exact ⟨by omega, by omega⟩
/-- What is told of any text. -/
theorem read_any (s : ByteArray) : ((readR s).2.2 = 0 ∧ mayO (readR s).1 = true) ∨ ((readR s).2.2 ≠ 0 ∧ (readR s).1 = zeroO ∧ 0 ≤ (readR s).2.1 ∧ (readR s).2.1 ≤ s.size) := by
  have hf := lexR_facts s
  have hp := place_in s
  unfold readR
  split
  · unfold readL
    split
    · split
      · unfold readEnd
        split
        · split
          · exact .inr ⟨by simp, rfl, hp _⟩
          · split
            · rename_i h; exact .inl ⟨rfl, h⟩
            · exact .inr ⟨by simp, rfl, hp _⟩
        · exact .inr ⟨by simp, rfl, hp _⟩
      · exact .inr ⟨by simp, rfl, hp _⟩
    · exact .inr ⟨by simp, rfl, hp _⟩
  · rename_i h
    exact .inr ⟨h, rfl, hf.2⟩
theorem mayO_bounds {o : Ord} (h : mayO o = true) : o.c.size ≤ 20 ∧ o.e.size ≤ 20 ∧ o.u.size ≤ 20 ∧ 0 ≤ o.n ∧ o.n ≤ 1000 := by
  obtain ⟨h1, h9, _, hl⟩ := mayO_k h
  have hm := mayL_mem hl
  obtain ⟨hk, h3⟩ := mayO_kept h
  have hn := part_n h1 h9
  have z : (⟨#[]⟩ : ByteArray).size = 0 := rfl
  have n99 : 99 ∈ (partsK o.k).data.toList → o.c.size ≤ 20 := fun hc => nameR_size ((hm 99 hc).resolve_left (by decide))
  have n101 : 101 ∈ (partsK o.k).data.toList → o.e.size ≤ 20 := fun hc => nameR_size ((hm 101 hc).resolve_left (by decide))
  have n117 : 117 ∈ (partsK o.k).data.toList → o.u.size ≤ 20 := fun hc => nameR_size ((hm 117 hc).resolve_left (by decide))
  have n110 : 110 ∈ (partsK o.k).data.toList → 1 ≤ o.n ∧ o.n ≤ 1000 := fun hc => h3 (hn 110 hc rfl)
  clear hm h3 hn
  rcases partsK_cases o.k with e | e | e | e | e <;> rw [e] at hk n99 n101 n117 n110
  · have hk' : o = ⟨o.k, o.c, ⟨#[]⟩, ⟨#[]⟩, 0⟩ := hk
    rw [hk']; exact ⟨n99 (by decide), by rw [z]; omega, by rw [z]; omega, by dsimp only; omega, by dsimp only; omega⟩
  · have hk' : o = ⟨o.k, o.c, o.e, o.u, 0⟩ := hk
    rw [hk']; exact ⟨n99 (by decide), n101 (by decide), n117 (by decide), by dsimp only; omega, by dsimp only; omega⟩
  · have hk' : o = ⟨o.k, ⟨#[]⟩, ⟨#[]⟩, ⟨#[]⟩, o.n⟩ := hk
    have := n110 (by decide)
    rw [hk']; exact ⟨by rw [z]; omega, by rw [z]; omega, by rw [z]; omega, by dsimp only; omega, by dsimp only; omega⟩
  · have hk' : o = ⟨o.k, ⟨#[]⟩, ⟨#[]⟩, o.u, 0⟩ := hk
    rw [hk']; exact ⟨by rw [z]; omega, by rw [z]; omega, n117 (by decide), by dsimp only; omega, by dsimp only; omega⟩
  · have hk' : o = ⟨o.k, ⟨#[]⟩, ⟨#[]⟩, ⟨#[]⟩, 0⟩ := hk
    rw [hk']; exact ⟨by rw [z]; omega, by rw [z]; omega, by rw [z]; omega, by dsimp only; omega, by dsimp only; omega⟩
end Go.Proofs.YtdphomiljkclbaaDoor
