/- Lemmas and contracts for the functions of one layer of the program, used by the law's proof. No conditions beyond those typed. -/
import Derived.Test.YtdphomiljkclbaaDoorOrdB
namespace Go.Proofs.YtdphomiljkclbaaDoor
set_option linter.unusedVariables false
set_option linter.unusedSimpArgs false
open Go.RowKit Go.Proofs.YtdphomiljkclbaaDoorW.PrintWords Go.Proofs.YtdphomiljkclbaaDoorW.PrintLast Go.Proofs.YtdphomiljkclbaaDoorW.PrintMore Go.Proofs.YtdphomiljkclbaaDoor.P

abbrev Tk := S47
abbrev rdT (l : List Tk) (i : Int) : Tk := rd_T47 l i
def zeroO : Ord := ⟨0, ⟨#[]⟩, ⟨#[]⟩, ⟨#[]⟩, 0⟩
def placeO (s : ByteArray) (l : List Tk) (i : Nat) : Int := if i < l.length then (rdT l i).f3 else s.size

theorem l0_some (x : ByteArray) : ∀ (k : Nat) (i : Int), 0 ≤ i → i ≤ 10 → 10 - i < k → ∃ r, order_kindOf.l0 k x wordsB 10 i = some r ∧ (r = 0 ∨ (1 ≤ r ∧ r ≤ 9 ∧ wordB r = x)) := by
  intro k
  induction k with
  | zero => intro i h0 h1 h2; omega
  | succ k ih =>
    intro i h0 h1 h2
    unfold order_kindOf.l0
    by_cases h3 : i < 10
    · rw [if_pos h3, if_pos h0, if_pos (show i < ((wordsB.length : Nat) : Int) from h3)]
      have hw : wrap64 (i + 1) = i + 1 := by unfold wrap64; omega
      rw [hw]
      have ih' := ih (i + 1) (by omega) (by omega) (by omega)
      by_cases h4 : (rdOf ByteArray.empty wordsB i).toList = x.toList
      · rw [if_pos h4]
        by_cases h5 : x.toList = ([] : List UInt8)
        · rw [if_pos h5]; exact ih'
        · rw [if_neg h5]
          refine ⟨i, rfl, .inr ⟨?_, by omega, ?_⟩⟩
          · rcases (by omega : i < 1 ∨ 1 ≤ i) with hi | hi
            · exfalso
              have : i = 0 := by omega
              subst this
              refine h5 (h4.symm.trans ?_)
              kernel_rfl
            · exact hi
          · rw [Lib.toList_data, Lib.toList_data] at h4
            exact ByteArray.ext (Array.toList_inj.1 h4)
      · rw [if_neg h4]; exact ih'
    · rw [if_neg h3]
      exact ⟨0, rfl, .inl rfl⟩
def kindB (x : ByteArray) : Int := (order_kindOf.f 11 x).getD 0
theorem kindB_eq (x : ByteArray) : order_kindOf.f 11 x = some (kindB x) ∧ (kindB x = 0 ∨ (1 ≤ kindB x ∧ kindB x ≤ 9 ∧ wordB (kindB x) = x)) := by
  obtain ⟨r, h, h2⟩ := l0_some x 11 0 (by omega) (by omega) (by omega)
  have e : order_kindOf.f 11 x = some r := by unfold order_kindOf.f; rw [words_eq]; exact h
  have e2 : kindB x = r := by unfold kindB; rw [e]; rfl
  rw [e2]
  exact ⟨e, h2⟩
theorem kindB_word (k : Int) (h1 : 1 ≤ k) (h9 : k ≤ 9) : kindB (wordB k) = k :=
  kinds (p := fun k => kindB (wordB k) = k) ⟨by kernel_rfl, by kernel_rfl, by kernel_rfl, by kernel_rfl, by kernel_rfl, by kernel_rfl, by kernel_rfl, by kernel_rfl, by kernel_rfl⟩ k h1 h9

theorem lexAt_facts (s : ByteArray) : ∀ f n i, s.size - i ≤ f → i ≤ s.size → (∀ l, lexAt s n i = .inl l → ∀ t ∈ l, t.f1.size ≤ s.size ∧ 0 ≤ t.f3 ∧ t.f3 ≤ s.size) ∧ (∀ j e, lexAt s n i = .inr (j, e) → j ≤ s.size ∧ (e = 2 ∨ e = 4)) := by
  intro f
  induction f with
  | zero =>
    intro n i h hi
    rw [lexAt_end (by omega)]
    refine ⟨fun l he => ?_, fun j e he => (by cases he)⟩
    cases he
    intro t ht; cases ht
  | succ f ih =>
    intro n i h hi0
    by_cases hi : i < s.size
    · rw [lexAt_step hi]
      split
      · exact ih _ _ (by omega) (by omega)
      · split
        · rename_i hok
          have hg := endS_gt s i hi hok
          split
          · exact ⟨fun l he => (by cases he), fun j e he => (by cases he; exact ⟨by omega, .inr rfl⟩)⟩
          · have ih2 := ih (n + 1) (endS s i) (by omega) hg.2
            cases hx : lexAt s (n + 1) (endS s i) with
            | inl l' =>
              refine ⟨fun l he => ?_, fun j e he => (by cases he)⟩
              cases he
              intro t ht
              rcases List.mem_cons.1 ht with rfl | ht
              · have h1 := tokS_size s i hi hok
                have h2 := (tokS_text s i).2
                rw [h2, h1]
                exact ⟨by omega, by omega, by omega⟩
              · exact ih2.1 l' hx t ht
            | inr e =>
              refine ⟨fun l he => (by cases he), fun j e' he => ?_⟩
              cases he
              exact ih2.2 j e' hx
        · exact ⟨fun l he => (by cases he), fun j e he => (by cases he; exact ⟨by omega, .inl rfl⟩)⟩
    · rw [lexAt_end hi]
      refine ⟨fun l he => ?_, fun j e he => (by cases he)⟩
      cases he
      intro t ht; cases ht
theorem lexR_facts (s : ByteArray) : (∀ i : Nat, i < (lexR s).1.length → (rdT (lexR s).1 i).f1.size ≤ s.size ∧ 0 ≤ (rdT (lexR s).1 i).f3 ∧ (rdT (lexR s).1 i).f3 ≤ s.size) ∧ 0 ≤ (lexR s).2.1 ∧ (lexR s).2.1 ≤ s.size := by
  have h := lexAt_facts s (s.size) 0 0 (by omega) (by omega)
  unfold lexR
  cases hx : lexAt s 0 0 with
  | inl l =>
    refine ⟨fun i hi => ?_, by simp, by simp⟩
    have hi' : i < l.length := hi
    have hm : rdT l i ∈ l := by
      have e : rdT l (i : Int) = l[i] := by simp [rdT, rd_T47, hi']
      rw [e]
      exact List.getElem_mem hi'
    exact h.1 l hx _ hm
  | inr e =>
    obtain ⟨j, e⟩ := e
    have := h.2 j e hx
    refine ⟨fun i hi => (by cases hi), ?_, ?_⟩
    · show (0 : Int) ≤ (j : Int); omega
    · show (j : Int) ≤ s.size; omega

def setP (o : Ord) (c : Nat) (t : Tk) : Ord := if (c : Int) = 99 then { o with c := t.f1 } else if (c : Int) = 101 then { o with e := t.f1 } else if (c : Int) = 117 then { o with u := t.f1 } else { o with n := t.f2 }
def wantP (c : Nat) : Int := if (c : Int) = 110 then 2 else 1
def readP (l : List Tk) : List UInt8 → Nat → Ord → Ord ⊕ Nat
  | [], _, o => .inl o
  | c :: cs, i, o => if i < l.length ∧ (rdT l i).f0 = wantP c.toNat then readP l cs (i + 1) (setP o c.toNat (rdT l i)) else .inr i
def readEnd (s : ByteArray) (l : List Tk) (i : Nat) (o : Ord) : Ord × Int × Int :=
  if i < l.length ∧ (rdT l i).f0 = 3 then (if i + 1 < l.length then (zeroO, placeO s l (i + 1), 2) else if mayO o then (o, 0, 0) else (zeroO, placeO s l 1, 3)) else (zeroO, placeO s l i, 2)
def readL (s : ByteArray) (l : List Tk) : Ord × Int × Int :=
  if 0 < l.length ∧ (rdT l 0).f0 = 1 ∧ kindB (rdT l 0).f1 ≠ 0 then
    (match readP l (partsK (kindB (rdT l 0).f1)).data.toList 1 ⟨kindB (rdT l 0).f1, ⟨#[]⟩, ⟨#[]⟩, ⟨#[]⟩, 0⟩ with
    | .inl o => readEnd s l (1 + (partsK (kindB (rdT l 0).f1)).size) o
    | .inr i => (zeroO, placeO s l i, 2))
  else (zeroO, placeO s l 0, 2)
def readR (s : ByteArray) : Ord × Int × Int := if (lexR s).2.2 = 0 then readL s (lexR s).1 else (zeroO, (lexR s).2.1, (lexR s).2.2)

theorem at_tok {w : World} {A : Option Addr} {l : List Tk} (hC : Kd.C k47 w A l.length l) (i : Nat) (h : i < l.length) : ∃ ad, A = some ad ∧ w.cell? (ad.add (i * 4)) = some (.int .i64 (rdT l i).f0) ∧ w.cell? ⟨(ad.add (i * 4)).block, (ad.add (i * 4)).off + 1, none⟩ = some (.string (rdT l i).f1) ∧ w.cell? ⟨(ad.add (i * 4)).block, (ad.add (i * 4)).off + 2, none⟩ = some (.int .i64 (rdT l i).f2) ∧ w.cell? ⟨(ad.add (i * 4)).block, (ad.add (i * 4)).off + 3, none⟩ = some (.int .i64 (rdT l i).f3) := by
  obtain ⟨ad, e, c0, c1, c2, c3⟩ := at_T47 hC (i : Int) (by omega) (by omega)
  rw [Int.toNat_natCast] at c0 c1 c2 c3
  exact ⟨ad, e, c0, c1, c2, c3⟩
theorem at_tok0 {w : World} {A : Option Addr} {l : List Tk} (hC : Kd.C k47 w A l.length l) (h : 0 < l.length) : ∃ ad, A = some ad ∧ w.cell? ad = some (.int .i64 (rdT l 0).f0) ∧ w.cell? ⟨ad.block, ad.off + 1, none⟩ = some (.string (rdT l 0).f1) ∧ w.cell? ⟨ad.block, ad.off + 2, none⟩ = some (.int .i64 (rdT l 0).f2) ∧ w.cell? ⟨ad.block, ad.off + 3, none⟩ = some (.int .i64 (rdT l 0).f3) := by
  obtain ⟨ad, e, c0, c1, c2, c3⟩ := at_tok hC 0 h
  have ha : ad.add (0 * 4) = ad := by simp [Addr.add]
  rw [ha] at c0 c1 c2 c3
  exact ⟨ad, e, c0, c1, c2, c3⟩
theorem place_any (s : ByteArray) (l : List Tk) (bl bs : Nat) (A : Option Addr) (c i : Nat) (w : World) (hl : w.cell? ⟨bl, 0, none⟩ = some (.slice A l.length c)) (hC : Kd.C k47 w A l.length l) (hs : w.cell? ⟨bs, 0, none⟩ = some (.string s)) :
    Calls Tryd.prog 20 #[.int .i64 i, .pointer (some ⟨bl, 0, none⟩), .pointer (some ⟨bs, 0, none⟩)] w fun e w' => e = .returned (.int .i64 (placeO s l i)) ∧ w' = w := by
  by_cases h : i < l.length
  · obtain ⟨ad, rfl, c0, c1, c2, c3⟩ := at_tok hC i h
    have hlt : (i : Int) < (l.length : Int) := by omega
    have h0 : (0 : Int) ≤ i := by omega
    have hR : Hid (placeO s l i = (rdT l i).f3) := by unfold placeO; rw [if_pos h]; rfl
    clear hC h
    go_enter Tryd.func20, Tryd.ntmps20
    go_wp2
    go_ret
    rw [hR.out]
    exact ⟨rfl, rfl⟩
  · have hlt : ¬ (i : Int) < (l.length : Int) := by omega
    have hR : Hid (placeO s l i = s.size) := by unfold placeO; rw [if_neg h]; rfl
    clear hC h
    go_enter Tryd.func20, Tryd.ntmps20
    go_wp2
    go_ret
    rw [hR.out]
    exact ⟨rfl, rfl⟩

theorem place_succ (s : ByteArray) (l : List Tk) (bl bs : Nat) (A : Option Addr) (c i : Nat) (w : World) (hl : w.cell? ⟨bl, 0, none⟩ = some (.slice A l.length c)) (hC : Kd.C k47 w A l.length l) (hs : w.cell? ⟨bs, 0, none⟩ = some (.string s)) :
    Calls Tryd.prog 20 #[.int .i64 ((i : Int) + 1), .pointer (some ⟨bl, 0, none⟩), .pointer (some ⟨bs, 0, none⟩)] w fun e w' => e = .returned (.int .i64 (placeO s l (i + 1))) ∧ w' = w := by
  have h := place_any s l bl bs A c (i + 1) w hl hC hs
  have e : ((i + 1 : Nat) : Int) = (i : Int) + 1 := by omega
  rw [e] at h
  exact h
theorem res5 {wr : World} {g : Nat} {o' : Ord} (h : wr.heap[g]? = some (.cells #[Value.int IntKind.i64 o'.k, Value.string o'.c, Value.string o'.e, Value.string o'.u, Value.int IntKind.i64 o'.n] 23 (0, 0))) (o : Ord) :
    (((((wr.setCell ⟨g, 0, none⟩ (.int .i64 o.k)).setCell ⟨g, 1, none⟩ (.string o.c)).setCell ⟨g, 2, none⟩ (.string o.e)).setCell ⟨g, 3, none⟩ (.string o.u)).setCell ⟨g, 4, none⟩ (.int .i64 o.n)).heap[g]? = some (.cells #[Value.int IntKind.i64 o.k, Value.string o.c, Value.string o.e, Value.string o.u, Value.int IntKind.i64 o.n] 23 (0, 0)) := by
  simpa using blk_set (blk_set (blk_set (blk_set (blk_set h 0 (.int .i64 o.k)) 1 (.string o.c)) 2 (.string o.e)) 3 (.string o.u)) 4 (.int .i64 o.n)
theorem below5 {w wr : World} {n g : Nat} (h : Below n w wr) (hg : n ≤ g) (o : Ord) : Below n w (((((wr.setCell ⟨g, 0, none⟩ (.int .i64 o.k)).setCell ⟨g, 1, none⟩ (.string o.c)).setCell ⟨g, 2, none⟩ (.string o.e)).setCell ⟨g, 3, none⟩ (.string o.u)).setCell ⟨g, 4, none⟩ (.int .i64 o.n)) :=
  ((((h.setCell (p := ⟨g, 0, none⟩) hg _).setCell (p := ⟨g, 1, none⟩) hg _).setCell (p := ⟨g, 2, none⟩) hg _).setCell (p := ⟨g, 3, none⟩) hg _).setCell (p := ⟨g, 4, none⟩) hg _

theorem resF {wr : World} {g : Nat} {o' : Ord} (h : wr.heap[g]? = some (.cells #[Value.int IntKind.i64 o'.k, Value.string o'.c, Value.string o'.e, Value.string o'.u, Value.int IntKind.i64 o'.n] 23 (0, 0))) :
    wr.cell? ⟨g, 0, none⟩ = some (.int .i64 o'.k) ∧ wr.cell? ⟨g, 1, none⟩ = some (.string o'.c) ∧ wr.cell? ⟨g, 2, none⟩ = some (.string o'.e) ∧ wr.cell? ⟨g, 3, none⟩ = some (.string o'.u) ∧ wr.cell? ⟨g, 4, none⟩ = some (.int .i64 o'.n) ∧
    wr.frozen? ⟨g, 0, none⟩ = false ∧ wr.frozen? ⟨g, 1, none⟩ = false ∧ wr.frozen? ⟨g, 2, none⟩ = false ∧ wr.frozen? ⟨g, 3, none⟩ = false ∧ wr.frozen? ⟨g, 4, none⟩ = false :=
  ⟨blk_cell h 0, blk_cell h 1, blk_cell h 2, blk_cell h 3, blk_cell h 4, blk_frozen h 0, blk_frozen h 1, blk_frozen h 2, blk_frozen h 3, blk_frozen h 4⟩

theorem tok_later {wx wr : World} {base : Nat} {ok : Nat → Prop} {A : Option Addr} {c : Nat} {l : List Tk} (HR : Kd.R k47 47 wx base ok (.slice A l.length c) l) (hb : Below wx.heap.size wx wr) : Kd.C k47 wr A l.length l := by
  exact (Kd.R_reads' (Kd.R_below HR hb)).2.2
theorem res_exit {w wr : World} {tmps : Array Value} {g : Nat} {o' : Ord} (h : wr.heap[g]? = some (.cells #[Value.int IntKind.i64 o'.k, Value.string o'.c, Value.string o'.e, Value.string o'.u, Value.int IntKind.i64 o'.n] 23 (0, 0))) (hp : tmps.getD 2 undef = .pointer (some ⟨g, 0, none⟩)) {x y : Int} (hx : tmps.getD 3 undef = .int .i64 x) (hy : tmps.getD 4 undef = .int .i64 y) {r : Ord × Int × Int} (hr : r = (o', x, y)) (hb : Below w.heap.size w wr) :
    bodyPost Tryd.prog Tryd.f9 (fun e w' => e = .returned (.tuple #[ordV r.1, .int .i64 r.2.1, .int .i64 r.2.2]) ∧ Below w.heap.size w w') .ret { tmps := tmps, defers := [] } wr := by
  subst hr
  refine bodyPost_ret (results_ctt rfl _ _ g 23 #[Value.int IntKind.i64 o'.k, Value.string o'.c, Value.string o'.e, Value.string o'.u, Value.int IntKind.i64 o'.n] (0, 0) _ hp h Tryd.underlying23 rfl (by kernel_rfl)) rfl ⟨?_, hb⟩
  show Ending.returned (Value.tuple #[_, tmps.getD 3 undef, tmps.getD 4 undef]) = _
  rw [hx, hy]

set_option maxHeartbeats 4000000 in
set_option maxRecDepth 100000 in
theorem Read_any (s : ByteArray) (hs : s.size ≤ 140737488351232) (w : World) :
    Calls Tryd.prog 9 #[.string s] w fun e w' => e = .returned (.tuple #[ordV (readR s).1, .int .i64 (readR s).2.1, .int .i64 (readR s).2.2]) ∧ Below w.heap.size w w' := by
  have hu := Tryd.underlying23
  obtain ⟨l, at_, er, hL⟩ : ∃ l at_ er, lexR s = (l, at_, er) := ⟨_, _, _, rfl⟩
  have hlx : Hid (∀ W, Calls Tryd.prog 19 #[.string s] W fun e w' => ∃ v, e = .returned (.tuple #[v, .int .i64 at_, .int .i64 er]) ∧ Kd.R k47 47 w' W.heap.size (fun _ => True) v l ∧ Below W.heap.size W w') := fun W => by
    have h := Lex_any s hs W
    rw [hL] at h
    exact h
  go_enter Tryd.func9, Tryd.ntmps9
  have hb0 := Lib.hid (below_alloc (below_alloc (Below.refl w.heap.size w) (.cells #[Value.string s] 9)) (.cells #[Value.int IntKind.i64 0, Value.string ⟨#[]⟩, Value.string ⟨#[]⟩, Value.string ⟨#[]⟩, Value.int IntKind.i64 0] 23))
  have hS0 := Lib.hid (blk_alloc (blk_new w (.cells #[Value.string s] 9)) (.cells #[Value.int IntKind.i64 0, Value.string ⟨#[]⟩, Value.string ⟨#[]⟩, Value.string ⟨#[]⟩, Value.int IntKind.i64 0] 23))
  have hZ0 := Lib.hid (blk_new (w.alloc (.cells #[Value.string s] 9)) (.cells #[Value.int IntKind.i64 0, Value.string ⟨#[]⟩, Value.string ⟨#[]⟩, Value.string ⟨#[]⟩, Value.int IntKind.i64 0] 23))
  rw [alloc_size] at hZ0
  generalize hW : (w.alloc (.cells #[Value.string s] 9)).alloc (.cells #[Value.int IntKind.i64 0, Value.string ⟨#[]⟩, Value.string ⟨#[]⟩, Value.string ⟨#[]⟩, Value.int IntKind.i64 0] 23) = W at *
  have y0 : W.cell? ⟨w.heap.size, 0, none⟩ = some (.string s) := blk_cell hS0.out 0
  go_upto_region 2 with (go_at_call 19; refine (hlx.out _).mono ?_; rintro e w1 ⟨v, rfl, hR1, hb1⟩; obtain ⟨A, c, rfl, hlc, _⟩ := Kd.R_reads hR1; have HB1 := Lib.hid hb1; have HR1 := Lib.hid hR1; clear hb1 hR1)
  clear y0
  have hws : w.heap.size + 2 = W.heap.size := by rw [← hW]; simp
  obtain ⟨wx, hwx⟩ : ∃ wx, wx = w1.alloc (.cells #[.slice A l.length c] 43) := ⟨_, rfl⟩
  rw [← hwx]
  have hb1x : Below w1.heap.size w1 wx := by rw [hwx]; exact below_alloc (Below.refl _ _) _
  have hl0 : wx.heap[w1.heap.size]? = some (.cells #[.slice A l.length c] 43 (0, 0)) := by rw [hwx]; exact blk_new w1 (.cells #[.slice A l.length c] 43)
  have hRx := Kd.R_below HR1.out hb1x
  have hBx := Lib.hid (HB1.out.trans (hb1x.mono HB1.out.size))
  have hSx := Lib.hid ((hBx.out.block w.heap.size (by omega)).trans hS0.out)
  have hZx := Lib.hid ((hBx.out.block (w.heap.size + 1) (by omega)).trans hZ0.out)
  have hbl : W.heap.size ≤ w1.heap.size := HB1.out.size
  have hlb := blk_lt hl0
  have HL0 := Lib.hid hl0
  have HRx := Lib.hid hRx
  have HBW := Lib.hid (hb0.out.trans (hBx.out.mono (by omega)))
  clear hwx hb1x HB1 HR1 hS0 hZ0 hW hl0 hRx
  generalize w1.heap.size = bl at *
  have hTX : Hid (∀ i : Nat, i < l.length → (rdT l i).f1.size ≤ s.size) := by have h := (lexR_facts s).1; rw [hL] at h; exact fun i hi => (h i hi).1
  by_cases her : er = 0
  · have hR : Hid (readR s = readL s l) := by show _ = _; unfold readR; rw [hL]; simp [her]
    subst her
    by_cases h0 : 0 < l.length
    · obtain ⟨ad, rfl, c0, c1, c2, c3⟩ := at_tok0 (Kd.R_reads' HRx.out).2.2 h0
      have hne : ((l.length : Int) == 0) = false := beq_eq_false_iff_ne.2 (by omega)
      have hlt0 : (0 : Int) < (l.length : Int) := by omega
      by_cases hk1 : (rdT l 0).f0 = 1
      · have hf : ((rdT l 0).f0 != 1) = false := by simp [hk1]
        have hK := kindB_eq (rdT l 0).f1
        have hKc := Lib.hid hK.1
        obtain ⟨tw, htw⟩ : ∃ tw, tw = (rdT l 0).f1 := ⟨_, rfl⟩
        rw [← htw] at c1 hK hKc
        have HTW := Lib.hid htw
        clear htw
        have hl1 : wx.cell? ⟨bl, 0, none⟩ = some (.slice (some ad) l.length c) := blk_cell HL0.out 0
        by_cases hk : kindB tw = 0
        · have hRR : Hid (readR s = (zeroO, placeO s l 0, 2)) := by show _ = _; rw [hR.out]; unfold readL; exact if_neg (fun h => h.2.2 (by rw [← HTW.out]; exact hk))
          rw [hk] at hKc
          clear hK hk
          go_wp2_with (first
            | (go_at_call 21; refine (order_kindOf.calls 11 _ _ _ hKc.out).mono ?_; rintro e w3 ⟨rfl, hb3⟩; have HB3 := Lib.hid hb3; clear hb3; have HZ3 := Lib.hid ((HB3.out.block (w.heap.size + 1) (by omega)).trans hZx.out); obtain ⟨z0, z1, z2, z3, z4, f0, f1, f2, f3, f4⟩ := resF (o' := zeroO) HZ3.out)
            | (go_at_call 20; refine (place_any s l bl w.heap.size (some ad) c 0 _ (blk_cell ((HB3.out.block bl hlb).trans HL0.out) 0) (tok_later HRx.out HB3.out) (blk_cell ((HB3.out.block w.heap.size (by omega)).trans hSx.out) 0)).mono ?_; rintro e w4 ⟨rfl, rfl⟩))
          refine res_exit (res5 (o' := zeroO) HZ3.out zeroO) ?_ ?_ ?_ hRR.out (below5 (HBW.out.trans (HB3.out.mono HBW.out.size)) (by omega) zeroO) <;> rfl
        · have hkk : 1 ≤ kindB tw ∧ kindB tw ≤ 9 ∧ wordB (kindB tw) = tw := hK.2.resolve_left hk
          have hP0 := parts_eq (kindB tw) hkk.1 hkk.2.1
          rw [hkk.2.2] at hP0
          have hp := Lib.hid hP0
          have hRL : Hid (readR s = (match readP l (partsK (kindB tw)).data.toList 1 ⟨kindB tw, ⟨#[]⟩, ⟨#[]⟩, ⟨#[]⟩, 0⟩ with
            | .inl o => readEnd s l (1 + (partsK (kindB tw)).size) o
            | .inr i => (zeroO, placeO s l i, 2))) := by
            show _ = _
            rw [hR.out]; unfold readL
            rw [← HTW.out]
            exact if_pos ⟨h0, hk1, hk⟩
          have HA := Lib.hid (partsK_ascii (kindB tw))
          have hby := Lib.hid (partsK_bytes (kindB tw))
          have hsz := partsK_size (kindB tw)
          have hk2 : (kindB tw == 0) = false := beq_eq_false_iff_ne.2 hk
          clear hK hP0 hk hkk hR
          generalize partsK (kindB tw) = P at *
          generalize kindB tw = k0 at *
          go_upto_region 7 with (go_at_call 21; refine (order_kindOf.calls 11 _ _ _ hKc.out).mono ?_; rintro e w3 ⟨rfl, hb3⟩; have HB3 := Lib.hid hb3; clear hb3)
          clear c0 c1 c2 c3 hl1
          obtain ⟨ad, ha, c0, c1, c2, c3⟩ := at_tok0 (tok_later HRx.out HB3.out) h0
          cases ha
          rw [← HTW.out] at c1
          have hl3 : w3.cell? ⟨bl, 0, none⟩ = some (.slice (some ad) l.length c) := blk_cell ((HB3.out.block bl hlb).trans HL0.out) 0
          go_upto_region 9 with (go_at_call 21; refine (order_kindOf.calls 11 _ _ _ hKc.out).mono ?_; rintro e w4 ⟨rfl, hb4⟩; have HB4 := Lib.hid (HB3.out.trans (hb4.mono HB3.out.size)); clear hb4)
          obtain ⟨w5, hw5⟩ : ∃ w5, w5 = w4.alloc (.cells #[Value.int IntKind.i64 k0, Value.string ⟨#[]⟩, Value.string ⟨#[]⟩, Value.string ⟨#[]⟩, Value.int IntKind.i64 0] 23) := ⟨_, rfl⟩
          rw [← hw5]
          have HB5 : Hid (Below wx.heap.size wx w5) := by show Below _ _ _; rw [hw5]; exact below_alloc HB4.out _
          have hO5 : w5.heap[w4.heap.size]? = some (Obj.cells #[Value.int IntKind.i64 k0, Value.string ⟨#[]⟩, Value.string ⟨#[]⟩, Value.string ⟨#[]⟩, Value.int IntKind.i64 0] 23 (0, 0)) := by rw [hw5]; exact blk_new w4 _
          have hbo : wx.heap.size ≤ w4.heap.size := HB4.out.size
          clear hw5 c0 c1 c2 c3 hl3 HB3 HB4
          generalize w4.heap.size = bo at *
          obtain ⟨ad, ha, c0, c1, c2, c3⟩ := at_tok0 (tok_later HRx.out HB5.out) h0
          cases ha
          rw [← HTW.out] at c1
          have hl5 : w5.cell? ⟨bl, 0, none⟩ = some (.slice (some ad) l.length c) := blk_cell ((HB5.out.block bl hlb).trans HL0.out) 0
          have HO5 := Lib.hid hO5
          have hbi : bo < w5.heap.size := blk_lt hO5
          clear hO5
          go_wp2_with (go_at_call 14; refine (order_parts.calls 1 _ _ _ hp.out).mono ?_; rintro e w6 ⟨rfl, ⟨n2, rfl⟩⟩)
          obtain ⟨w6, hw6⟩ : ∃ w6, w6 = (w5.drewN n2).iter P 0 := ⟨_, rfl⟩
          rw [← hw6]
          have hi6 : w6.heap[w5.heap.size]? = some (.stringIter P 0) := by rw [hw6]; exact World.iter_heap (w5.drewN n2) P 0
          have hO6 : Aside0 (w6.heap[bo]? = some (Obj.cells #[Value.int IntKind.i64 k0, Value.string ⟨#[]⟩, Value.string ⟨#[]⟩, Value.string ⟨#[]⟩, Value.int IntKind.i64 0] 23 (0, 0))) := ⟨by rw [hw6]; exact blk_alloc (w := w5.drewN n2) HO5.out (.stringIter P 0)⟩
          have HB6 : Aside0 (Below wx.heap.size wx w6) := ⟨by rw [hw6]; exact below_alloc (pw_below_drewN HB5.out n2) (.stringIter P 0)⟩
          clear hw6 c0 c1 c2 c3 hl5 HB5 HO5 hp
          generalize w5.heap.size = it at *
          go_loopw [10] (fun v wr => ∃ (pos i : Nat) (o' : Ord), v = .int .i64 (i : Int) ∧ Aside0 (i = pos + 1) ∧ pos ≤ P.size ∧ Aside0 (readP l (P.data.toList.drop pos) i o' = readP l P.data.toList 1 ⟨k0, ⟨#[]⟩, ⟨#[]⟩, ⟨#[]⟩, 0⟩) ∧ wr.heap[it]? = some (.stringIter P pos) ∧ Aside0 (wr.heap[bo]? = some (Obj.cells #[Value.int IntKind.i64 o'.k, Value.string o'.c, Value.string o'.e, Value.string o'.u, Value.int IntKind.i64 o'.n] 23 (0, 0))) ∧ Aside0 (Below wx.heap.size wx wr) ∧ Aside0 (o'.c.size ≤ s.size ∧ o'.e.size ≤ s.size ∧ o'.u.size ≤ s.size)) (fun _ wr => P.size - wr.iterPos it)
          case atStart => exact ⟨0, 1, ⟨k0, ⟨#[]⟩, ⟨#[]⟩, ⟨#[]⟩, 0⟩, rfl, ⟨rfl⟩, Nat.zero_le _, ⟨rfl⟩, hi6, hO6, HB6, ⟨Nat.zero_le _, Nat.zero_le _, Nat.zero_le _⟩⟩
          case round =>
            clear hi6 hO6 HB6
            obtain ⟨pos, i, o', rfl, hip, hps, HK, hk, HO, HB, HSZ⟩ := hrel
            have hi4 : i ≤ 4 := by have := hip.out; omega
            by_cases hp : pos < P.size
            · have h128 := HA.out pos hp
              have hnext : ∀ ty, (Instr.next (.pointer (some ⟨it, 0, none⟩)) true ty).run Tryd.prog wr = _ := fun ty => Lib.run_next_ascii_at wr it P pos ty hk hp h128
              have hk1 := Lib.iterAt_heap wr it P pos (pos + 1) hk
              have HB1 := Aside0.mk (Lib.below_iterAt HB.out (show wx.heap.size ≤ it by omega) P (pos + 1))
              have hO1 := (Lib.iterAt_other wr it bo P (pos + 1) (by omega)).trans HO.out
              have hmu : wr.iterPos it = pos := by simp [World.iterPos, hk]
              generalize wr.iterAt it P (pos + 1) = W1 at hnext hk1 HB1 hO1
              have hl1 : W1.cell? ⟨bl, 0, none⟩ = some (.slice (some ad) l.length c) := blk_cell ((HB1.out.block bl hlb).trans HL0.out) 0
              have HZ1 := Lib.hid ((HB1.out.block (w.heap.size + 1) (by omega)).trans hZx.out)
              have HBW1 := Lib.hid (HBW.out.trans (HB1.out.mono HBW.out.size))
              have HO1 := Aside0.mk hO1
              have HD := Lib.hid (drop_byte P pos hp)
              have hcc := Lib.hid (hby.out pos hp)
              clear hk HO HB hO1 h128
              generalize hc : (P[pos]'hp).toNat = ch at *
              have hstep : Hid (readP l P.data.toList 1 ⟨k0, ⟨#[]⟩, ⟨#[]⟩, ⟨#[]⟩, 0⟩ = if i < l.length ∧ (rdT l i).f0 = wantP ch then readP l (P.data.toList.drop (pos + 1)) (i + 1) (setP o' ch (rdT l i)) else .inr i) := by
                show _ = _
                rw [← HK.out, HD.out, readP, hc]
              by_cases hi : i < l.length
              · obtain ⟨ad2, ha, c0, c1, c2, c3⟩ := at_tok (tok_later HRx.out HB1.out) i hi
                cases ha
                have hlt : (i : Int) < (l.length : Int) := by omega
                have h00 : (0 : Int) ≤ i := by omega
                by_cases hkd : (rdT l i).f0 = wantP ch
                · rw [if_pos (show _ ∧ _ from ⟨hi, hkd⟩)] at hstep
                  have hTS := Lib.hid (hTX.out i hi)
                  obtain ⟨q0, q1, q2, q3, q4, g0, g1, g2, g3, g4⟩ := resF HO1.out
                  have HCC := hcc
                  rcases hcc.out with rfl | rfl | rfl | rfl
                  · have hkd2 : (rdT l i).f0 = 1 := hkd
                    clear hkd
                    have hset : Hid (setP o' 99 (rdT l i) = { o' with c := (rdT l i).f1 }) := rfl
                    go_wp2
                    refine ⟨⟨pos + 1, i + 1, { o' with c := (rdT l i).f1 }, by go_num, ⟨by have := hip.out; omega⟩, hp, ⟨?_⟩, (Below.heap_setCell _ _ _ _ (by simp; omega)).trans hk1, ⟨blk_set HO1.out 1 (.string (rdT l i).f1)⟩, ⟨HB1.out.setCell (p := ⟨bo, 1, none⟩) (by simp; omega) _⟩, ⟨⟨hTS.out, HSZ.out.2.1, HSZ.out.2.2⟩⟩⟩, ?_⟩
                    · rw [← hset.out]; exact hstep.out.symm
                    · rw [hmu, World.iterPos, (Below.heap_setCell _ _ _ _ (by simp; omega)).trans hk1]; simp; omega
                  · have hkd2 : (rdT l i).f0 = 1 := hkd
                    clear hkd
                    have hset : Hid (setP o' 101 (rdT l i) = { o' with e := (rdT l i).f1 }) := rfl
                    go_wp2
                    refine ⟨⟨pos + 1, i + 1, { o' with e := (rdT l i).f1 }, by go_num, ⟨by have := hip.out; omega⟩, hp, ⟨?_⟩, (Below.heap_setCell _ _ _ _ (by simp; omega)).trans hk1, ⟨blk_set HO1.out 2 (.string (rdT l i).f1)⟩, ⟨HB1.out.setCell (p := ⟨bo, 2, none⟩) (by simp; omega) _⟩, ⟨⟨HSZ.out.1, hTS.out, HSZ.out.2.2⟩⟩⟩, ?_⟩
                    · rw [← hset.out]; exact hstep.out.symm
                    · rw [hmu, World.iterPos, (Below.heap_setCell _ _ _ _ (by simp; omega)).trans hk1]; simp; omega
                  · have hkd2 : (rdT l i).f0 = 1 := hkd
                    clear hkd
                    have hset : Hid (setP o' 117 (rdT l i) = { o' with u := (rdT l i).f1 }) := rfl
                    go_wp2
                    refine ⟨⟨pos + 1, i + 1, { o' with u := (rdT l i).f1 }, by go_num, ⟨by have := hip.out; omega⟩, hp, ⟨?_⟩, (Below.heap_setCell _ _ _ _ (by simp; omega)).trans hk1, ⟨blk_set HO1.out 3 (.string (rdT l i).f1)⟩, ⟨HB1.out.setCell (p := ⟨bo, 3, none⟩) (by simp; omega) _⟩, ⟨⟨HSZ.out.1, HSZ.out.2.1, hTS.out⟩⟩⟩, ?_⟩
                    · rw [← hset.out]; exact hstep.out.symm
                    · rw [hmu, World.iterPos, (Below.heap_setCell _ _ _ _ (by simp; omega)).trans hk1]; simp; omega
                  · have hkd2 : (rdT l i).f0 = 2 := hkd
                    clear hkd
                    have hset : Hid (setP o' 110 (rdT l i) = { o' with n := (rdT l i).f2 }) := rfl
                    go_wp2
                    refine ⟨⟨pos + 1, i + 1, { o' with n := (rdT l i).f2 }, by go_num, ⟨by have := hip.out; omega⟩, hp, ⟨?_⟩, (Below.heap_setCell _ _ _ _ (by simp; omega)).trans hk1, ⟨blk_set HO1.out 4 (.int .i64 (rdT l i).f2)⟩, ⟨HB1.out.setCell (p := ⟨bo, 4, none⟩) (by simp; omega) _⟩, ⟨HSZ.out⟩⟩, ?_⟩
                    · rw [← hset.out]; exact hstep.out.symm
                    · rw [hmu, World.iterPos, (Below.heap_setCell _ _ _ _ (by simp; omega)).trans hk1]; simp; omega
                · have hRR : Hid (readR s = (zeroO, placeO s l i, 2)) := by
                    show _ = _
                    rw [hRL.out, hstep.out, if_neg (fun h => hkd h.2)]
                  obtain ⟨z0, z1, z2, z3, z4, f0, f1, f2, f3, f4⟩ := resF (o' := zeroO) HZ1.out
                  by_cases h110 : (ch : Int) = 110
                  · have hb : ((ch : Int) == 110) = true := by simp [h110]
                    have hf : ((rdT l i).f0 != 2) = true := by
                      have e : wantP ch = 2 := by unfold wantP; rw [if_pos h110]
                      rw [e] at hkd
                      simp [hkd]
                    clear hkd
                    go_wp2_with (go_at_call 20; refine (place_any s l bl w.heap.size (some ad) c i _ (blk_cell ((HB1.out.block bl hlb).trans HL0.out) 0) (tok_later HRx.out HB1.out) (blk_cell ((HB1.out.block w.heap.size (by omega)).trans hSx.out) 0)).mono ?_; rintro e w4 ⟨rfl, rfl⟩)
                    refine res_exit (res5 (o' := zeroO) HZ1.out zeroO) ?_ ?_ ?_ hRR.out (below5 HBW1.out (by omega) zeroO) <;> rfl
                  · have hb : ((ch : Int) == 110) = false := by simp [h110]
                    have hf : ((rdT l i).f0 != 1) = true := by
                      have e : wantP ch = 1 := by unfold wantP; rw [if_neg h110]
                      rw [e] at hkd
                      simp [hkd]
                    clear hkd
                    go_wp2_with (go_at_call 20; refine (place_any s l bl w.heap.size (some ad) c i _ (blk_cell ((HB1.out.block bl hlb).trans HL0.out) 0) (tok_later HRx.out HB1.out) (blk_cell ((HB1.out.block w.heap.size (by omega)).trans hSx.out) 0)).mono ?_; rintro e w4 ⟨rfl, rfl⟩)
                    refine res_exit (res5 (o' := zeroO) HZ1.out zeroO) ?_ ?_ ?_ hRR.out (below5 HBW1.out (by omega) zeroO) <;> rfl
              · have hRR : Hid (readR s = (zeroO, placeO s l i, 2)) := by
                  show _ = _
                  rw [hRL.out, hstep.out, if_neg (fun h => hi h.1)]
                have hlt : ¬ (i : Int) < (l.length : Int) := by omega
                have hge : (l.length : Int) ≤ (i : Int) := by omega
                obtain ⟨z0, z1, z2, z3, z4, f0, f1, f2, f3, f4⟩ := resF (o' := zeroO) HZ1.out
                by_cases h110 : (ch : Int) = 110
                · have hb : ((ch : Int) == 110) = true := by simp [h110]
                  go_wp2_with (go_at_call 20; refine (place_any s l bl w.heap.size (some ad) c i _ (blk_cell ((HB1.out.block bl hlb).trans HL0.out) 0) (tok_later HRx.out HB1.out) (blk_cell ((HB1.out.block w.heap.size (by omega)).trans hSx.out) 0)).mono ?_; rintro e w4 ⟨rfl, rfl⟩)
                  refine res_exit (res5 (o' := zeroO) HZ1.out zeroO) ?_ ?_ ?_ hRR.out (below5 HBW1.out (by omega) zeroO) <;> rfl
                · have hb : ((ch : Int) == 110) = false := by simp [h110]
                  go_wp2_with (go_at_call 20; refine (place_any s l bl w.heap.size (some ad) c i _ (blk_cell ((HB1.out.block bl hlb).trans HL0.out) 0) (tok_later HRx.out HB1.out) (blk_cell ((HB1.out.block w.heap.size (by omega)).trans hSx.out) 0)).mono ?_; rintro e w4 ⟨rfl, rfl⟩)
                  refine res_exit (res5 (o' := zeroO) HZ1.out zeroO) ?_ ?_ ?_ hRR.out (below5 HBW1.out (by omega) zeroO) <;> rfl
            · have hnext : ∀ ty, (Instr.next (.pointer (some ⟨it, 0, none⟩)) true ty).run Tryd.prog wr = _ := fun ty => Lib.run_next_end_at wr it P pos ty hk hp
              have hall : P.data.toList.drop pos = [] := List.drop_eq_nil_of_le (by rw [Array.length_toList]; show P.size ≤ pos; omega)
              have hRE : Hid (readR s = readEnd s l i o') := by
                show _ = _
                rw [hRL.out, ← HK.out, hall, show i = 1 + P.size by have := hip.out; omega]
                rfl
              have hl1 : wr.cell? ⟨bl, 0, none⟩ = some (.slice (some ad) l.length c) := blk_cell ((HB.out.block bl hlb).trans HL0.out) 0
              have HZ1 := Lib.hid ((HB.out.block (w.heap.size + 1) (by omega)).trans hZx.out)
              have HBW1 := Lib.hid (HBW.out.trans (HB.out.mono HBW.out.size))
              obtain ⟨z0, z1, z2, z3, z4, f0, f1, f2, f3, f4⟩ := resF (o' := zeroO) HZ1.out
              clear hall hk
              by_cases hi : i < l.length
              · obtain ⟨ad2, ha, c0, c1, c2, c3⟩ := at_tok (tok_later HRx.out HB.out) i hi
                cases ha
                have hlt : (i : Int) < (l.length : Int) := by omega
                have h00 : (0 : Int) ≤ i := by omega
                by_cases h3 : (rdT l i).f0 = 3
                · have hf : ((rdT l i).f0 != 3) = false := by simp [h3]
                  by_cases hi1 : i + 1 < l.length
                  · have hRR : Hid (readR s = (zeroO, placeO s l (i + 1), 2)) := by
                      show _ = _
                      rw [hRE.out]; unfold readEnd; rw [if_pos ⟨hi, h3⟩, if_pos hi1]
                    have hlt1 : (i : Int) + 1 < (l.length : Int) := by omega
                    clear h3
                    go_wp2_with (go_at_call 20; refine (place_succ s l bl w.heap.size (some ad) c i _ (blk_cell ((HB.out.block bl hlb).trans HL0.out) 0) (tok_later HRx.out HB.out) (blk_cell ((HB.out.block w.heap.size (by omega)).trans hSx.out) 0)).mono ?_; rintro e w4 ⟨rfl, rfl⟩)
                    refine res_exit (res5 (o' := zeroO) HZ1.out zeroO) ?_ ?_ ?_ hRR.out (below5 HBW1.out (by omega) zeroO) <;> rfl
                  · have hlt1 : ¬ (i : Int) + 1 < (l.length : Int) := by omega
                    obtain ⟨q0, q1, q2, q3, q4, g0, g1, g2, g3, g4⟩ := resF HO.out
                    have hsz2 := HSZ.out
                    cases hM : mayO o'
                    · have hmay : Hid (∀ W, Calls Tryd.prog 11 #[ordV o'] W fun e w' => e = .returned (.bool false) ∧ Below W.heap.size W w') := fun W => by have h := May_any o' (by omega) (by omega) (by omega) W; rw [hM] at h; exact h
                      have hRR : Hid (readR s = (zeroO, placeO s l 1, 3)) := by
                        show _ = _
                        rw [hRE.out]; unfold readEnd; rw [if_pos ⟨hi, h3⟩, if_neg hi1, hM]; rfl
                      clear h3 hsz2 z0 z1 z2 z3 z4 f0 f1 f2 f3 f4
                      go_wp2_with (first
                        | (go_at_call 11; refine (hmay.out _).mono ?_; rintro e w3 ⟨rfl, hb3⟩; have HB3 := Lib.hid (HB.out.trans (hb3.mono HB.out.size)); clear hb3; have HZ3 := Lib.hid ((HB3.out.block (w.heap.size + 1) (by omega)).trans hZx.out); obtain ⟨z0, z1, z2, z3, z4, f0, f1, f2, f3, f4⟩ := resF (o' := zeroO) HZ3.out)
                        | (go_at_call 20; refine (place_any s l bl w.heap.size (some ad) c 1 _ (blk_cell ((HB3.out.block bl hlb).trans HL0.out) 0) (tok_later HRx.out HB3.out) (blk_cell ((HB3.out.block w.heap.size (by omega)).trans hSx.out) 0)).mono ?_; rintro e w4 ⟨rfl, rfl⟩))
                      refine res_exit (res5 (o' := zeroO) HZ3.out zeroO) ?_ ?_ ?_ hRR.out (below5 (HBW.out.trans (HB3.out.mono HBW.out.size)) (by omega) zeroO) <;> rfl
                    · have hmay : Hid (∀ W, Calls Tryd.prog 11 #[ordV o'] W fun e w' => e = .returned (.bool true) ∧ Below W.heap.size W w') := fun W => by have h := May_any o' (by omega) (by omega) (by omega) W; rw [hM] at h; exact h
                      have hRR : Hid (readR s = (o', 0, 0)) := by
                        show _ = _
                        rw [hRE.out]; unfold readEnd; rw [if_pos ⟨hi, h3⟩, if_neg hi1, hM]; rfl
                      clear h3 hsz2 z0 z1 z2 z3 z4 f0 f1 f2 f3 f4
                      go_wp2_with (go_at_call 11; refine (hmay.out _).mono ?_; rintro e w3 ⟨rfl, hb3⟩; have HB3 := Lib.hid (HB.out.trans (hb3.mono HB.out.size)); have HO3 := Lib.hid ((hb3.block bo (blk_lt HO.out)).trans HO.out); clear hb3; have HZ3 := Lib.hid ((HB3.out.block (w.heap.size + 1) (by omega)).trans hZx.out); obtain ⟨z0, z1, z2, z3, z4, f0, f1, f2, f3, f4⟩ := resF (o' := zeroO) HZ3.out; obtain ⟨y0, y1, y2, y3, y4, e0, e1, e2, e3, e4⟩ := resF HO3.out)
                      refine res_exit (res5 (o' := zeroO) HZ3.out o') ?_ ?_ ?_ hRR.out (below5 (HBW.out.trans (HB3.out.mono HBW.out.size)) (by omega) o') <;> rfl
                · have hf : ((rdT l i).f0 != 3) = true := by simp [h3]
                  have hRR : Hid (readR s = (zeroO, placeO s l i, 2)) := by
                    show _ = _
                    rw [hRE.out]; unfold readEnd; exact if_neg (fun h => h3 h.2)
                  clear h3
                  go_wp2_with (go_at_call 20; refine (place_any s l bl w.heap.size (some ad) c i _ (blk_cell ((HB.out.block bl hlb).trans HL0.out) 0) (tok_later HRx.out HB.out) (blk_cell ((HB.out.block w.heap.size (by omega)).trans hSx.out) 0)).mono ?_; rintro e w4 ⟨rfl, rfl⟩)
                  refine res_exit (res5 (o' := zeroO) HZ1.out zeroO) ?_ ?_ ?_ hRR.out (below5 HBW1.out (by omega) zeroO) <;> rfl
              · have hlt : ¬ (i : Int) < (l.length : Int) := by omega
                have hge : (l.length : Int) ≤ (i : Int) := by omega
                have hRR : Hid (readR s = (zeroO, placeO s l i, 2)) := by
                  show _ = _
                  rw [hRE.out]; unfold readEnd; exact if_neg (fun h => hi h.1)
                go_wp2_with (go_at_call 20; refine (place_any s l bl w.heap.size (some ad) c i _ (blk_cell ((HB.out.block bl hlb).trans HL0.out) 0) (tok_later HRx.out HB.out) (blk_cell ((HB.out.block w.heap.size (by omega)).trans hSx.out) 0)).mono ?_; rintro e w4 ⟨rfl, rfl⟩)
                refine res_exit (res5 (o' := zeroO) HZ1.out zeroO) ?_ ?_ ?_ hRR.out (below5 HBW1.out (by omega) zeroO) <;> rfl
      · have hf : ((rdT l 0).f0 != 1) = true := by simp [hk1]
        have hRR : Hid (readR s = (zeroO, placeO s l 0, 2)) := by show _ = _; rw [hR.out]; unfold readL; exact if_neg (fun h => hk1 h.2.1)
        have hl1 : wx.cell? ⟨bl, 0, none⟩ = some (.slice (some ad) l.length c) := blk_cell HL0.out 0
        obtain ⟨z0, z1, z2, z3, z4, f0, f1, f2, f3, f4⟩ := resF (o' := zeroO) hZx.out
        go_wp2_with (go_at_call 20; refine (place_any s l bl w.heap.size (some ad) c 0 _ (blk_cell HL0.out 0) (Kd.R_reads' HRx.out).2.2 (blk_cell hSx.out 0)).mono ?_; rintro e w3 ⟨rfl, rfl⟩)
        refine res_exit (res5 (o' := zeroO) hZx.out zeroO) ?_ ?_ ?_ hRR.out (below5 HBW.out (by omega) zeroO) <;> rfl
    · have he : l.length = 0 := by omega
      have hne : ((l.length : Int) == 0) = true := by rw [he]; rfl
      have hRR : Hid (readR s = (zeroO, placeO s l 0, 2)) := by show _ = _; rw [hR.out]; unfold readL; exact if_neg (fun h => h0 h.1)
      clear he
      have hl1 : wx.cell? ⟨bl, 0, none⟩ = some (.slice A l.length c) := blk_cell HL0.out 0
      obtain ⟨z0, z1, z2, z3, z4, f0, f1, f2, f3, f4⟩ := resF (o' := zeroO) hZx.out
      go_wp2_with (go_at_call 20; refine (place_any s l bl w.heap.size A c 0 _ (blk_cell HL0.out 0) (Kd.R_reads' HRx.out).2.2 (blk_cell hSx.out 0)).mono ?_; rintro e w3 ⟨rfl, rfl⟩)
      refine res_exit (res5 (o' := zeroO) hZx.out zeroO) ?_ ?_ ?_ hRR.out (below5 HBW.out (by omega) zeroO) <;> rfl
  · have hR : Hid (readR s = (zeroO, at_, er)) := by show _ = _; unfold readR; rw [hL]; simp [her]
    obtain ⟨z0, z1, z2, z3, z4, f0, f1, f2, f3, f4⟩ := resF (o' := zeroO) hZx.out
    go_wp2
    refine res_exit (res5 (o' := zeroO) hZx.out zeroO) ?_ ?_ ?_ hR.out (below5 HBW.out (by omega) zeroO) <;> rfl
end Go.Proofs.YtdphomiljkclbaaDoor
