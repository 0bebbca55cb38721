/- The program's journal and the reference's, side by side; each call on both; opening; what is read. No conditions beyond those typed. -/
import Derived.Test.YtngcdkbnljoodaaRefD
namespace Go.Proofs.Ytngcdkbnljoodaa
set_option linter.unusedVariables false
set_option linter.unusedSimpArgs false
open Go.RowKit Go.Proofs.YtngcdkbnljoodaaW.PrintWords

/-- A journal on a store, by its values. -/
structure JT where
  s : St
  l : List Bs
  fin : Nat
  o : Bool
/-- What an append does, by values. -/
def JT.app (n : Nat) (A : JT) (t : Bs) : JT × Int :=
  if t.length = 0 ∨ 400 < t.length then (A, 3)
  else if 32 * n < A.fin + (t.length + 8) then (A, 14)
  else if A.o = true then (A, 16)
  else if (appendS A.s 0 n A.fin (frameL t)).2 = 0 then ({ s := (appendS A.s 0 n A.fin (frameL t)).1, l := A.l ++ [t], fin := A.fin + (t.length + 8), o := false }, 0)
  else ({ s := (appendS A.s 0 n A.fin (frameL t)).1, l := A.l, fin := A.fin, o := true }, (appendS A.s 0 n A.fin (frameL t)).2)
/-- An act's block stays. -/
def KeepX (w w' : World) : Prop := ∀ (g : Nat) (cs : Array Value) (f : Nat × Nat), w.heap[g]? = some (.cells cs 39 f) → w'.heap[g]? = some (.cells cs 39 f)
theorem KeepX.trans {a b c : World} (h : KeepX a b) (k : KeepX b c) : KeepX a c := fun g cs f hg => k g cs f (h g cs f hg)
theorem KeepX.of_nil {w w' : World} (ho : Only [] w w') : KeepX w w' := fun g cs f hg => ho.blk hg (by simp)
theorem KeepX.of_only {S : List Nat} {w w' : World} (ho : Only S w w') (hS : ∀ g, g ∈ S → ∃ cs t f, w.heap[g]? = some (.cells cs t f) ∧ t ≠ 39) : KeepX w w' := fun g cs f hg => by
  refine ho.blk hg (fun hm => ?_)
  obtain ⟨cs', t', f', h1, h2⟩ := hS g hm
  rw [hg] at h1
  cases h1
  exact h2 rfl
theorem StR.typeQ {w : World} {q g : Nat} {s : St} (h : StR w q g s) : ∃ cs f, w.heap[q]? = some (.cells cs 69 f) := by
  obtain ⟨_, _, ⟨cap, m, c⟩, _⟩ := h
  exact ⟨_, _, c⟩
theorem StR.typeG {w : World} {q g : Nat} {s : St} (h : StR w q g s) : ∃ cs f, w.heap[g]? = some (.cells cs 9 f) := by
  obtain ⟨_, _, _, ⟨cur, c, _⟩⟩ := h
  exact ⟨_, _, c⟩
theorem JnR.typeJ {w : World} {j q pf nb fin : Nat} {rb : Option Nat} {l : List Bs} {o : Bool} (h : JnR w j rb q pf nb l fin o) : ∃ cs f, w.heap[j]? = some (.cells cs 51 f) := by
  obtain ⟨v, hv, _⟩ := h.ex
  exact ⟨_, _, hv⟩
theorem JnR.typeR {w : World} {j q pf nb fin : Nat} {rb : Option Nat} {l : List Bs} {o : Bool} (h : JnR w j rb q pf nb l fin o) {g : Nat} (hg : rb = some g) : ∃ cs f, w.heap[g]? = some (.cells cs 9 f) := by
  obtain ⟨v, hv, hown, hr, _⟩ := h.ex
  exact own_type hown (hr.trans hg)
/-- The two stores, each with its journal. -/
structure Jd (w0 w : World) (p b q g j jr : Nat) (rb rr : Option Nat) (n : Nat) (A B : JT) : Prop where
  st : StoreIs w p b A.s
  jn : JnIs w j rb p 0 n A.l A.fin A.o
  sr : StR w q g B.s
  jx : JnR w jr rr q 0 n B.l B.fin B.o
  an : A.s.n = n
  bn : B.s.n = n
  af : A.fin ≤ 32 * n
  bf : B.fin ≤ 32 * n
  al : A.l.length ≤ A.fin
  bl : B.l.length ≤ B.fin
  d1 : ∀ x, rb = some x → x ≠ g ∧ rr ≠ some x
  d2 : ∀ x, rr = some x → x ≠ g
  gs : w0.heap.size ≤ p ∧ w0.heap.size ≤ b ∧ w0.heap.size ≤ q ∧ w0.heap.size ≤ g ∧ w0.heap.size ≤ j ∧ w0.heap.size ≤ jr
  gb : ∀ x, rb = some x → w0.heap.size ≤ x
  gr : ∀ x, rr = some x → w0.heap.size ≤ x
  on : Only [] w0 w
theorem Jd.keep {w0 w w' : World} {p b q g j jr n : Nat} {rb rr : Option Nat} {A B : JT} (h : Jd w0 w p b q g j jr rb rr n A B) (ho : Only [] w w') : Jd w0 w' p b q g j jr rb rr n A B :=
  { an := h.an, bn := h.bn, af := h.af, bf := h.bf, al := h.al, bl := h.bl, d1 := h.d1, d2 := h.d2, gs := h.gs, gb := h.gb, gr := h.gr
    st := h.st.only ho (by simp) (by simp), jn := h.jn.only ho (by simp) (by simp), sr := h.sr.only ho (by simp) (by simp), jx := h.jx.only ho (by simp) (by simp), on := h.on.tr ho }
theorem Jd.n256 {w0 w : World} {p b q g j jr n : Nat} {rb rr : Option Nat} {A B : JT} (h : Jd w0 w p b q g j jr rb rr n A B) : 1 ≤ n ∧ n ≤ 256 := by
  have := h.st.wf.lo
  have := h.st.wf.hi
  have := h.an
  omega
theorem Jd.hasA {w0 w : World} {p b q g j jr n : Nat} {rb rr : Option Nat} {A B : JT} (h : Jd w0 w p b q g j jr rb rr n A B) : A.s.Has 0 n := ⟨h.n256.1, by have := h.an; omega⟩
theorem Jd.hasB {w0 w : World} {p b q g j jr n : Nat} {rb rr : Option Nat} {A B : JT} (h : Jd w0 w p b q g j jr rb rr n A B) : B.s.Has 0 n := ⟨h.n256.1, by have := h.bn; omega⟩
/-- The program's side has turned. -/
theorem Jd.turnA {w0 w w' : World} {p b q g j jr n : Nat} {rb rb' rr : Option Nat} {A A' B : JT} (h : Jd w0 w p b q g j jr rb rr n A B) (ho : Only ([p, b] ++ (j :: rb.toList)) w w') (hst : StoreIs w' p b A'.s) (hjn : JnIs w' j rb' p 0 n A'.l A'.fin A'.o)
    (hn : A'.s.n = n) (hf : A'.fin ≤ 32 * n) (hl : A'.l.length ≤ A'.fin) (hrb : ∀ x, rb' = some x → rb = some x ∨ w.heap.size ≤ x) : KeepX w w' ∧ Jd w0 w' p b q g j jr rb' rr n A' B := by
  have tP := h.st.typeP
  have tB := h.st.typeB
  have tJ := h.jn.typeJ
  have tQ := h.sr.typeQ
  have tG := h.sr.typeG
  have tX := h.jx.typeJ
  have hrm : ∀ x, x ∈ rb.toList → rb = some x := fun x hx => by simpa using hx
  have hmem : ∀ x, x ∈ ([p, b] ++ (j :: rb.toList)) → x = p ∨ x = b ∨ x = j ∨ rb = some x := fun x hx => by simpa using hx
  refine ⟨KeepX.of_only ho (fun x hx => ?_), ?_⟩
  · rcases hmem x hx with rfl | rfl | rfl | hx
    · obtain ⟨cs, f, h2⟩ := tP; exact ⟨cs, _, f, h2, by decide⟩
    · obtain ⟨cs, f, h2⟩ := tB; exact ⟨cs, _, f, h2, by decide⟩
    · obtain ⟨cs, f, h2⟩ := tJ; exact ⟨cs, _, f, h2, by decide⟩
    · obtain ⟨cs, f, h2⟩ := h.jn.typeR hx; exact ⟨cs, _, f, h2, by decide⟩
  · have hq : q ∉ ([p, b] ++ (j :: rb.toList)) := fun hx => by
      rcases hmem q hx with e | e | e | e
      · exact ty_ne tQ tP (by decide) e
      · exact ty_ne tQ tB (by decide) e
      · exact ty_ne tQ tJ (by decide) e
      · exact ty_ne tQ (h.jn.typeR e) (by decide) rfl
    have hg : g ∉ ([p, b] ++ (j :: rb.toList)) := fun hx => by
      rcases hmem g hx with e | e | e | e
      · exact ty_ne tG tP (by decide) e
      · exact ty_ne tG tB (by decide) e
      · exact ty_ne tG tJ (by decide) e
      · exact (h.d1 g e).1 rfl
    have hx : jr ∉ ([p, b] ++ (j :: rb.toList)) := fun hx => by
      rcases hmem jr hx with e | e | e | e
      · exact ty_ne tX tP (by decide) e
      · exact ty_ne tX tB (by decide) e
      · exact ty_ne tX tJ (by decide) e
      · exact ty_ne tX (h.jn.typeR e) (by decide) rfl
    have hr : ∀ x, rr = some x → x ∉ ([p, b] ++ (j :: rb.toList)) := fun x hx hm => by
      have tx := h.jx.typeR hx
      rcases hmem x hm with e | e | e | e
      · exact ty_ne tx tP (by decide) e
      · exact ty_ne tx tB (by decide) e
      · exact ty_ne tx tJ (by decide) e
      · exact (h.d1 x e).2 hx
    exact { an := hn, bn := h.bn, af := hf, bf := h.bf, al := hl, bl := h.bl, d2 := h.d2, gs := h.gs, gr := h.gr, st := hst, jn := hjn
            sr := h.sr.only ho hq hg, jx := h.jx.only ho hx hr
            d1 := fun x hx => by
              rcases hrb x hx with e | e
              · exact h.d1 x e
              · have h1 := ty_lt tG
                exact ⟨by omega, fun e2 => by have := ty_lt (h.jx.typeR e2); omega⟩
            gb := fun x hx => by
              rcases hrb x hx with e | e
              · exact h.gb x e
              · have := h.on.size; omega
            on := h.on.trans ho (fun x hx => Or.inr (by
              have := h.gs
              rcases hmem x hx with rfl | rfl | rfl | e
              · omega
              · omega
              · omega
              · exact h.gb x e)) }
/-- The reference's side has turned. -/
theorem Jd.turnB {w0 w w' : World} {p b q g j jr n : Nat} {rb rr rr' : Option Nat} {A B B' : JT} (h : Jd w0 w p b q g j jr rb rr n A B) (ho : Only [q, g, jr] w w') (hst : StR w' q g B'.s) (hjn : JnR w' jr rr' q 0 n B'.l B'.fin B'.o)
    (hn : B'.s.n = n) (hf : B'.fin ≤ 32 * n) (hl : B'.l.length ≤ B'.fin) (hrb : ∀ x, rr' = some x → rr = some x ∨ w.heap.size ≤ x) : KeepX w w' ∧ Jd w0 w' p b q g j jr rb rr' n A B' := by
  have tP := h.st.typeP
  have tB := h.st.typeB
  have tJ := h.jn.typeJ
  have tQ := h.sr.typeQ
  have tG := h.sr.typeG
  have tX := h.jx.typeJ
  have hmem : ∀ x, x ∈ [q, g, jr] → x = q ∨ x = g ∨ x = jr := fun x hx => by simpa using hx
  refine ⟨KeepX.of_only ho (fun x hx => ?_), ?_⟩
  · rcases hmem x hx with rfl | rfl | rfl
    · obtain ⟨cs, f, h2⟩ := tQ; exact ⟨cs, _, f, h2, by decide⟩
    · obtain ⟨cs, f, h2⟩ := tG; exact ⟨cs, _, f, h2, by decide⟩
    · obtain ⟨cs, f, h2⟩ := tX; exact ⟨cs, _, f, h2, by decide⟩
  · have off : ∀ x t, (∃ cs f, w.heap[x]? = some (.cells cs t f)) → t ≠ 69 → t ≠ 51 → x ≠ g → x ∉ [q, g, jr] := fun x t tx h1 h2 h3 hx => by
      rcases hmem x hx with e | e | e
      · exact ty_ne tx tQ h1 e
      · exact h3 e
      · exact ty_ne tx tX h2 e
    exact { an := h.an, bn := hn, af := h.af, bf := hf, al := h.al, bl := hl, gs := h.gs, gb := h.gb, sr := hst, jx := hjn
            st := h.st.only ho (off _ _ tP (by decide) (by decide) (ty_ne tP tG (by decide))) (off _ _ tB (by decide) (by decide) (ty_ne tB tG (by decide)))
            jn := h.jn.only ho (off _ _ tJ (by decide) (by decide) (ty_ne tJ tG (by decide))) (fun x hx => off _ _ (h.jn.typeR hx) (by decide) (by decide) (h.d1 x hx).1)
            d1 := fun x hx => ⟨(h.d1 x hx).1, fun e2 => by
              rcases hrb x e2 with e | e
              · exact (h.d1 x hx).2 e
              · have := ty_lt (h.jn.typeR hx); omega⟩
            d2 := fun x hx => by
              rcases hrb x hx with e | e
              · exact h.d2 x e
              · have := ty_lt tG; omega
            gr := fun x hx => by
              rcases hrb x hx with e | e
              · exact h.gr x e
              · have := h.on.size; omega
            on := h.on.trans ho (fun x hx => Or.inr (by
              have := h.gs
              rcases hmem x hx with rfl | rfl | rfl <;> omega)) }

theorem putL_n (pf : Nat) (all was : Bs) (must : Bool) : ∀ (k i : Nat) (s : St), s.Wf → (putL pf all was must k i s).1.n = s.n := by
  intro k
  induction k with
  | zero => intro i s _; rfl
  | succ k ih =>
    intro i s hs
    have hw := St.write_wf hs ((pf + i : Nat) : Int) (blk all i)
    rw [putL]
    split
    · exact ih _ _ hs
    · split
      · exact hw.2.1
      · exact (ih _ _ hw.1).trans hw.2.1
theorem openS_n {s : St} (hs : s.Wf) (pf nb fin : Nat) : (openS s pf nb fin).1.n = s.n := putL_n _ _ _ _ _ _ _ hs
theorem appendS_n {s : St} (hs : s.Wf) (pf nb fin : Nat) (f : Bs) : (appendS s pf nb fin f).1.n = s.n := putL_n _ _ _ _ _ _ _ hs
theorem part_all {s : St} (hs : s.Wf) {n : Nat} (hn : s.n = n) : partB s 0 n = s.bs := by
  unfold partB
  rw [Nat.mul_zero, List.drop_zero, List.take_of_length_le (by rw [hs.len, hn]; exact Nat.le_refl _)]
theorem jd_appA {w0 w : World} {p b q g j jr n : Nat} {rb rr : Option Nat} {A B : JT} (h : Jd w0 w p b q g j jr rb rr n A B) (d : ByteArray) : ∀ W, Only [] w W →
    Calls Try.prog 12 #[.pointer (some ⟨j, 0, none⟩), .string d] W fun e w' => e = .returned (.int .i64 (A.app n d.data.toList).2) ∧ KeepX w w' ∧ ∃ rb', Jd w0 w' p b q g j jr rb' rr n (A.app n d.data.toList).1 B := fun W hW => by
  have hk := h.keep hW
  have hdl : d.data.toList.length = d.size := rfl
  have hn := h.n256
  have ha := h.al
  have hf := h.af
  unfold JT.app
  rw [hdl]
  by_cases hb : d.size = 0 ∨ 400 < d.size
  · rw [if_pos hb]
    refine (append_bad d hb).mono ?_
    rintro e _ ⟨rfl, rfl⟩
    exact ⟨rfl, KeepX.of_nil hW, rb, hk⟩
  · rw [if_neg hb]
    by_cases hr : 32 * n < A.fin + (d.size + 8)
    · rw [if_pos hr]
      refine (append_not hk.jn hn.2 hf d (by omega) (by omega) (Or.inl (by omega))).mono ?_
      rintro e w' ⟨rfl, hbel⟩
      have ho := Only.of_below (S := []) hbel
      exact ⟨by rw [if_pos (show 32 * n - A.fin < d.size + 8 by omega)], KeepX.of_nil (hW.tr ho), rb, hk.keep ho⟩
    · rw [if_neg hr]
      by_cases ho : A.o = true
      · rw [if_pos ho]
        refine (append_not hk.jn hn.2 hf d (by omega) (by omega) (Or.inr ho)).mono ?_
        rintro e w' ⟨rfl, hbel⟩
        have ho := Only.of_below (S := []) hbel
        exact ⟨by rw [if_neg (show ¬ 32 * n - A.fin < d.size + 8 by omega)], KeepX.of_nil (hW.tr ho), rb, hk.keep ho⟩
      · rw [if_neg ho]
        have hj : JnIs W j rb p 0 n A.l A.fin false := by
          have := hk.jn
          cases hoo : A.o
          · rw [hoo] at this; exact this
          · exact absurd hoo ho
        have han := appendS_n h.st.wf 0 n A.fin (frameL d.data.toList)
        refine (append_go hk.st hj h.hasA d (by omega) (by omega) (by omega) (by omega)).mono ?_
        rintro e w' ⟨hO, hst, rfl, (⟨hne, hjn⟩ | ⟨h0, rb', hrb', hjn⟩)⟩
        · rw [if_neg hne]
          obtain ⟨k1, k2⟩ := hk.turnA (A' := ⟨(appendS A.s 0 n A.fin (frameL d.data.toList)).1, A.l, A.fin, true⟩) hO hst hjn (han.trans h.an) hf ha (fun x hx => Or.inl hx)
          exact ⟨rfl, (KeepX.of_nil hW).trans k1, rb, k2⟩
        · rw [if_pos h0]
          obtain ⟨k1, k2⟩ := hk.turnA (A' := ⟨(appendS A.s 0 n A.fin (frameL d.data.toList)).1, A.l ++ [d.data.toList], A.fin + (d.size + 8), false⟩) hO hst hjn (han.trans h.an) (by show A.fin + (d.size + 8) ≤ 32 * n; omega) (by show (A.l ++ [d.data.toList]).length ≤ A.fin + _; rw [List.length_append]; simp; omega) hrb'
          exact ⟨by rw [h0], (KeepX.of_nil hW).trans k1, rb', k2⟩
theorem jd_appB {w0 w : World} {p b q g j jr n : Nat} {rb rr : Option Nat} {A B : JT} (h : Jd w0 w p b q g j jr rb rr n A B) (d : ByteArray) : ∀ W, Only [] w W →
    Calls Try.prog 13 #[.pointer (some ⟨jr, 0, none⟩), .string d] W fun e w' => e = .returned (.int .i64 (B.app n d.data.toList).2) ∧ KeepX w w' ∧ ∃ rr', Jd w0 w' p b q g j jr rb rr' n A (B.app n d.data.toList).1 := fun W hW => by
  have hk := h.keep hW
  have hdl : d.data.toList.length = d.size := rfl
  have hn := h.n256
  have ha := h.bl
  have hf := h.bf
  unfold JT.app
  rw [hdl]
  refine (RAppend_of hk.sr hk.jx h.hasB h.d2 d hf (by omega)).mono ?_
  rintro e w' (⟨hb, rfl, ho⟩ | ⟨h1, h2, hr, rfl, ho⟩ | ⟨h1, h2, hr, ho, hO, hst, rfl, (⟨hne, hjn⟩ | ⟨h0, rb', hrb', hjn⟩)⟩)
  · rw [if_pos hb]
    exact ⟨rfl, KeepX.of_nil (hW.tr ho), rr, hk.keep ho⟩
  · rw [if_neg (show ¬ (d.size = 0 ∨ 400 < d.size) by omega)]
    by_cases hrm : 32 * n < B.fin + (d.size + 8)
    · rw [if_pos hrm, if_pos hrm]
      exact ⟨rfl, KeepX.of_nil (hW.tr ho), rr, hk.keep ho⟩
    · rw [if_neg hrm, if_neg hrm, if_pos (by rcases hr with h | h; exact absurd h hrm; exact h)]
      exact ⟨rfl, KeepX.of_nil (hW.tr ho), rr, hk.keep ho⟩
  · have han := appendS_n h.sr.wf 0 n B.fin (frameL d.data.toList)
    rw [if_neg (show ¬ (d.size = 0 ∨ 400 < d.size) by omega), if_neg (show ¬ 32 * n < B.fin + (d.size + 8) by omega), if_neg (by rw [ho]; decide), if_neg hne]
    obtain ⟨k1, k2⟩ := hk.turnB (B' := ⟨(appendS B.s 0 n B.fin (frameL d.data.toList)).1, B.l, B.fin, true⟩) hO hst hjn (han.trans h.bn) hf ha (fun x hx => Or.inl hx)
    exact ⟨rfl, (KeepX.of_nil hW).trans k1, rr, k2⟩
  · have han := appendS_n h.sr.wf 0 n B.fin (frameL d.data.toList)
    rw [if_neg (show ¬ (d.size = 0 ∨ 400 < d.size) by omega), if_neg (show ¬ 32 * n < B.fin + (d.size + 8) by omega), if_neg (by rw [ho]; decide), if_pos h0]
    obtain ⟨k1, k2⟩ := hk.turnB (B' := ⟨(appendS B.s 0 n B.fin (frameL d.data.toList)).1, B.l ++ [d.data.toList], B.fin + (d.size + 8), false⟩) hO hst hjn (han.trans h.bn) (by show B.fin + (d.size + 8) ≤ 32 * n; omega) (by show (B.l ++ [d.data.toList]).length ≤ B.fin + _; rw [List.length_append]; simp; omega) (fun x hx => Or.inr (hrb' x hx))
    exact ⟨by rw [h0], (KeepX.of_nil hW).trans k1, rb', k2⟩
/-- The program's store has turned. -/
theorem Jd.storeA {w0 w w' : World} {p b q g j jr n : Nat} {rb rr : Option Nat} {A B : JT} (h : Jd w0 w p b q g j jr rb rr n A B) (s' : St) (ho : Only [p, b] w w') (hst : StoreIs w' p b s') (hn : s'.n = n) : KeepX w w' ∧ Jd w0 w' p b q g j jr rb rr n { A with s := s' } B :=
  h.turnA (A' := { A with s := s' }) (ho.mono (fun x hx => by simp at hx ⊢; omega)) hst (h.jn.only ho (by simp; have := h.jn.away h.st; exact this.1) (fun x hx => by simp; exact (h.jn.away h.st).2.1 x hx)) hn h.af h.al (fun x hx => Or.inl hx)
theorem Jd.storeB {w0 w w' : World} {p b q g j jr n : Nat} {rb rr : Option Nat} {A B : JT} (h : Jd w0 w p b q g j jr rb rr n A B) (s' : St) (ho : Only [q, g] w w') (hst : StR w' q g s') (hn : s'.n = n) : KeepX w w' ∧ Jd w0 w' p b q g j jr rb rr n A { B with s := s' } :=
  h.turnB (B' := { B with s := s' }) (ho.mono (fun x hx => by simp at hx ⊢; omega)) hst (h.jx.only ho (by simp; exact ⟨ty_ne h.jx.typeJ h.sr.typeQ (by decide), ty_ne h.jx.typeJ h.sr.typeG (by decide)⟩) (fun x hx => by simp; exact ⟨ty_ne (h.jx.typeR hx) h.sr.typeQ (by decide), h.d2 x hx⟩)) hn h.bf h.bl (fun x hx => Or.inl hx)
theorem jd_fuseA {w0 w : World} {p b q g j jr n : Nat} {rb rr : Option Nat} {A B : JT} (h : Jd w0 w p b q g j jr rb rr n A B) (x y : Int) (hx : x ≤ 9223372036854775807) :
    Calls Try.prog 14 #[.pointer (some ⟨p, 0, none⟩), .int .i64 x, .int .i64 y] w fun e w' => e = .returned (.tuple #[]) ∧ KeepX w w' ∧ Jd w0 w' p b q g j jr rb rr n { A with s := A.s.setFuse x y } B := by
  refine (fuse_of h.st x y hx).mono ?_
  rintro e w' ⟨rfl, hs, ho⟩
  exact ⟨rfl, h.storeA _ (ho.mono (by simp)) hs h.an⟩
theorem jd_fuseB {w0 w : World} {p b q g j jr n : Nat} {rb rr : Option Nat} {A B : JT} (h : Jd w0 w p b q g j jr rb rr n A B) (x y : Int) (hx : x ≤ 9223372036854775807) :
    Calls Try.prog 15 #[.pointer (some ⟨q, 0, none⟩), .int .i64 x, .int .i64 y] w fun e w' => e = .returned (.tuple #[]) ∧ KeepX w w' ∧ Jd w0 w' p b q g j jr rb rr n A { B with s := B.s.setFuse x y } := by
  refine (RFuse_of h.sr x y hx).mono ?_
  rintro e w' ⟨rfl, hs, ho⟩
  exact ⟨rfl, h.storeB _ (ho.mono (by simp)) hs h.bn⟩
theorem jd_upA {w0 w : World} {p b q g j jr n : Nat} {rb rr : Option Nat} {A B : JT} (h : Jd w0 w p b q g j jr rb rr n A B) :
    Calls Try.prog 16 #[.pointer (some ⟨p, 0, none⟩)] w fun e w' => e = .returned (.tuple #[]) ∧ KeepX w w' ∧ Jd w0 w' p b q g j jr rb rr n { A with s := A.s.up } B := by
  refine (up_of h.st).mono ?_
  rintro e w' ⟨rfl, hs, ho⟩
  exact ⟨rfl, h.storeA _ (ho.mono (by simp)) hs h.an⟩
theorem jd_upB {w0 w : World} {p b q g j jr n : Nat} {rb rr : Option Nat} {A B : JT} (h : Jd w0 w p b q g j jr rb rr n A B) :
    Calls Try.prog 17 #[.pointer (some ⟨q, 0, none⟩)] w fun e w' => e = .returned (.tuple #[]) ∧ KeepX w w' ∧ Jd w0 w' p b q g j jr rb rr n A { B with s := B.s.up } := by
  refine (RUp_of h.sr).mono ?_
  rintro e w' ⟨rfl, hs, ho⟩
  exact ⟨rfl, h.storeB _ (ho.mono (by simp)) hs h.bn⟩
theorem jd_writeA {w0 w : World} {p b q g j jr n : Nat} {rb rr : Option Nat} {A B : JT} (h : Jd w0 w p b q g j jr rb rr n A B) (i : Int) (d : ByteArray) : ∀ W, Only [] w W →
    Calls Try.prog 18 #[.pointer (some ⟨p, 0, none⟩), .int .i64 i, .string d] W fun e w' => ∃ c : Int, e = .returned (.int .i64 c) ∧ KeepX w w' ∧ Jd w0 w' p b q g j jr rb rr n { A with s := (A.s.write i d.data.toList).1 } B := fun W hW => by
  refine (write_of (h.keep hW).st i d).mono ?_
  rintro e w' ⟨rfl, hs, ho⟩
  obtain ⟨k1, k2⟩ := (h.keep hW).storeA _ ho hs ((St.write_wf h.st.wf i d.data.toList).2.1.trans h.an)
  exact ⟨_, rfl, (KeepX.of_nil hW).trans k1, k2⟩
theorem jd_writeB {w0 w : World} {p b q g j jr n : Nat} {rb rr : Option Nat} {A B : JT} (h : Jd w0 w p b q g j jr rb rr n A B) (i : Int) (d : ByteArray) : ∀ W, Only [] w W →
    Calls Try.prog 20 #[.pointer (some ⟨q, 0, none⟩), .int .i64 i, .string d] W fun e w' => ∃ c : Int, e = .returned (.int .i64 c) ∧ KeepX w w' ∧ Jd w0 w' p b q g j jr rb rr n A { B with s := (B.s.write i d.data.toList).1 } := fun W hW => by
  refine (RWrite_of (h.keep hW).sr i d).mono ?_
  rintro e w' ⟨rfl, hs, ho⟩
  obtain ⟨k1, k2⟩ := (h.keep hW).storeB _ ho hs ((St.write_wf h.sr.wf i d.data.toList).2.1.trans h.bn)
  exact ⟨_, rfl, (KeepX.of_nil hW).trans k1, k2⟩

/-- What is opened, by values. -/
def openJ (n : Nat) (s : St) (l : List Bs) : JT := ⟨(openS s 0 n (frames l).length).1, l, (frames l).length, false⟩
theorem scan_fits {s : St} (hs : s.Wf) {n : Nat} (hh : s.Has 0 n) {l : List Bs} {t : Bs} (hsc : IsScan (partB s 0 n) l t) : (frames l).length ≤ 32 * n := by
  have h1 := congrArg List.length hsc.eq
  rw [List.length_append, partB_length hs hh] at h1
  omega
theorem jd_openA {w0 w : World} {p b q g j jr n : Nat} {rb rr : Option Nat} {A B : JT} (h : Jd w0 w p b q g j jr rb rr n A B) (hd : A.s.down = false) (hf : A.s.fuse = -1) {l : List Bs} {t : Bs} (hsc : IsScan (partB A.s 0 n) l t) :
    Calls Try.prog 10 #[.pointer (some ⟨p, 0, none⟩)] w fun e w' => ∃ (j' : Nat) (v : Value), e = .returned (.tuple #[.pointer (some ⟨j', 0, none⟩), v, .int .i64 0]) ∧ KeepX w w' ∧ (∀ w2, Only [q, g] w' w2 → RowS w2 v l) ∧ ∃ rb', Jd w0 w' p b q g j' jr rb' rr n (openJ n A.s l) B := by
  have hh := h.hasA
  have hop := open_of h.st
  rw [h.an] at hop
  refine hop.mono ?_
  rintro e w' ⟨ho, (⟨hB, _⟩ | ⟨a, c, l', t', ha, hc, _, hsc', hs', hr⟩)⟩
  · have := isB_has hh
    rw [show (0 : Int) = ((0 : Nat) : Int) from rfl, this] at hB
    cases hB
  · obtain rfl : a = 0 := by omega
    obtain rfl : c = n := by omega
    obtain ⟨rfl, _⟩ := IsScan.uniq hsc hsc'
    obtain ⟨P, hP, hT, hor, hok⟩ := open_ok h.st.wf hh hsc
    obtain ⟨hq, hfu⟩ := hok hd hf
    rcases hr with ⟨hn, _⟩ | ⟨_, j', rb', v, hj, hrb, rfl, hjn, hown, hne⟩
    · exact absurd hq hn
    · have tG := h.sr.typeG
      have hgl := ty_lt tG
      have hxl := h.on.size
      have tP := h.st.typeP
      have tB := h.st.typeB
      have hfit := scan_fits h.st.wf hh hsc
      have hcnt := frames_count l
      have off : ∀ x t, (∃ cs f, w.heap[x]? = some (.cells cs t f)) → t ≠ 67 → t ≠ 81 → x ∉ [p, b] := fun x t tx h1 h2 hx => by
        simp at hx
        rcases hx with e | e
        · exact ty_ne tx tP h1 e
        · exact ty_ne tx tB h2 e
      refine ⟨j', v, rfl, KeepX.of_only ho (fun x hx => ?_), fun w2 ho2 => ?_, rb', ?_⟩
      · simp at hx
        rcases hx with rfl | rfl
        · obtain ⟨cs, f, h2⟩ := tP; exact ⟨cs, _, f, h2, by decide⟩
        · obtain ⟨cs, f, h2⟩ := tB; exact ⟨cs, _, f, h2, by decide⟩
      · refine RowS.of_own (base := w.heap.size) (own_keep hown ho2 (fun x hx hm => ?_))
        have h1 := (hown.lt x hx).1
        have h2 := ty_lt h.sr.typeQ
        simp at hm
        omega
      · exact { an := (openS_n h.st.wf 0 c _).trans h.an, bn := h.bn, af := hfit, bf := h.bf, al := hcnt, bl := h.bl, d2 := h.d2, gr := h.gr, st := hs', jn := hjn
                sr := h.sr.only ho (off _ _ h.sr.typeQ (by decide) (by decide)) (off _ _ tG (by decide) (by decide))
                jx := h.jx.only ho (off _ _ h.jx.typeJ (by decide) (by decide)) (fun x hx => off _ _ (h.jx.typeR hx) (by decide) (by decide))
                d1 := fun x hx => ⟨by have := hrb x hx; omega, fun e => by have := hrb x hx; have := ty_lt (h.jx.typeR e); omega⟩
                gs := by have := h.gs; omega
                gb := fun x hx => by have := hrb x hx; omega
                on := h.on.trans ho (by simp; have := h.gs; omega) }
theorem jd_openB {w0 w : World} {p b q g j jr n : Nat} {rb rr : Option Nat} {A B : JT} (h : Jd w0 w p b q g j jr rb rr n A B) (hd : B.s.down = false) (hf : B.s.fuse = -1) {l : List Bs} {t : Bs} (hsc : IsScan (partB B.s 0 n) l t) :
    Calls Try.prog 11 #[.pointer (some ⟨q, 0, none⟩)] w fun e w' => ∃ (j' : Nat) (v : Value), e = .returned (.tuple #[.pointer (some ⟨j', 0, none⟩), v, .int .i64 0]) ∧ KeepX w w' ∧ Only [q, g] w w' ∧ RowS w' v l ∧ ∃ rr', Jd w0 w' p b q g j j' rb rr' n A (openJ n B.s l) := by
  have hh := h.hasB
  have hop := ROpen_of h.sr
  rw [h.bn] at hop
  refine hop.mono ?_
  rintro e w' ⟨ho, (⟨hB, _⟩ | ⟨a, c, l', t', ha, hc, _, hsc', hs', hr⟩)⟩
  · have := isB_has hh
    rw [show (0 : Int) = ((0 : Nat) : Int) from rfl, this] at hB
    cases hB
  · obtain rfl : a = 0 := by omega
    obtain rfl : c = n := by omega
    obtain ⟨rfl, _⟩ := IsScan.uniq hsc hsc'
    obtain ⟨P, hP, hT, hor, hok⟩ := open_ok h.sr.wf hh hsc
    obtain ⟨hq, hfu⟩ := hok hd hf
    rcases hr with ⟨hn, _⟩ | ⟨_, j', rr', v, hj, hrb, rfl, hjn, hown⟩
    · exact absurd hq hn
    · have tG := h.sr.typeG
      have tQ := h.sr.typeQ
      have hgl := ty_lt tG
      have hxl := h.on.size
      have hfit := scan_fits h.sr.wf hh hsc
      have hcnt := frames_count l
      have off : ∀ x t, (∃ cs f, w.heap[x]? = some (.cells cs t f)) → t ≠ 69 → x ≠ g → x ∉ [q, g] := fun x t tx h1 h2 hx => by
        simp at hx
        rcases hx with e | e
        · exact ty_ne tx tQ h1 e
        · exact h2 e
      refine ⟨j', v, rfl, KeepX.of_only ho (fun x hx => ?_), ho, RowS.of_own hown, rr', ?_⟩
      · simp at hx
        rcases hx with rfl | rfl
        · obtain ⟨cs, f, h2⟩ := tQ; exact ⟨cs, _, f, h2, by decide⟩
        · obtain ⟨cs, f, h2⟩ := tG; exact ⟨cs, _, f, h2, by decide⟩
      · exact { bn := (openS_n h.sr.wf 0 c _).trans h.bn, an := h.an, bf := hfit, af := h.af, bl := hcnt, al := h.al, gb := h.gb, sr := hs', jx := hjn
                st := h.st.only ho (off _ _ h.st.typeP (by decide) (ty_ne h.st.typeP tG (by decide))) (off _ _ h.st.typeB (by decide) (ty_ne h.st.typeB tG (by decide)))
                jn := h.jn.only ho (off _ _ h.jn.typeJ (by decide) (ty_ne h.jn.typeJ tG (by decide))) (fun x hx => off _ _ (h.jn.typeR hx) (by decide) (h.d1 x hx).1)
                d1 := fun x hx => ⟨(h.d1 x hx).1, fun e => by have := hrb x e; have := ty_lt (h.jn.typeR hx); omega⟩
                d2 := fun x hx => by have := hrb x hx; omega
                gs := by have := h.gs; omega
                gr := fun x hx => by have := hrb x hx; omega
                on := h.on.trans ho (by simp; have := h.gs; omega) }
theorem jd_bytesA {w0 w : World} {p b q g j jr n : Nat} {rb rr : Option Nat} {A B : JT} (h : Jd w0 w p b q g j jr rb rr n A B) : ∀ W, Only [] w W →
    Calls Try.prog 22 #[.pointer (some ⟨p, 0, none⟩)] W fun e w' => e = .returned (.string (mkS A.s.bs)) ∧ Only [] w w' := fun W hW => by
  refine (bytes_of (h.keep hW).st).mono ?_
  rintro e w' ⟨rfl, hb⟩
  exact ⟨rfl, hW.tr (Only.of_below hb)⟩
theorem jd_bytesB {w0 w : World} {p b q g j jr n : Nat} {rb rr : Option Nat} {A B : JT} (h : Jd w0 w p b q g j jr rb rr n A B) : ∀ W, Only [] w W →
    Calls Try.prog 23 #[.pointer (some ⟨q, 0, none⟩)] W fun e w' => e = .returned (.string (mkS B.s.bs)) ∧ Only [] w w' := fun W hW => by
  refine (RBytes_of (h.keep hW).sr).mono ?_
  rintro e _ ⟨rfl, rfl⟩
  exact ⟨rfl, hW⟩
theorem jd_records {w0 w : World} {p b q g j jr n : Nat} {rb rr : Option Nat} {A B : JT} (h : Jd w0 w p b q g j jr rb rr n A B) {l : List Bs} {t : Bs} (hsc : IsScan A.s.bs l t) : ∀ W, Only [] w W →
    Calls Try.prog 25 #[.pointer (some ⟨p, 0, none⟩)] W fun e w' => ∃ v, e = .returned v ∧ Only [] w w' ∧ RowS w' v l := fun W hW => by
  have hr := records_up (h.keep hW).st (l := l) (t := t) (by rw [part_all h.st.wf rfl]; exact hsc)
  refine hr.mono ?_
  rintro e w' ⟨v, rfl, hown, ho⟩
  exact ⟨v, rfl, hW.tr ho, RowS.of_own hown⟩
theorem jd_jrec {w0 w : World} {p b q g j jr n : Nat} {rb rr : Option Nat} {A B : JT} (h : Jd w0 w p b q g j jr rb rr n A B) : ∀ W, Only [] w W →
    Calls Try.prog 26 #[.pointer (some ⟨j, 0, none⟩)] W fun e w' => ∃ v, e = .returned v ∧ Only [] w w' ∧ RowS w' v A.l := fun W hW => by
  have := h.al
  have := h.af
  have := h.n256
  refine (jrecords_of (h.keep hW).jn (by omega)).mono ?_
  rintro e w' ⟨v, rfl, hown, hb⟩
  exact ⟨v, rfl, hW.tr (Only.of_below hb), RowS.of_own hown⟩
theorem jd_room {w0 w : World} {p b q g j jr n : Nat} {rb rr : Option Nat} {A B : JT} (h : Jd w0 w p b q g j jr rb rr n A B) : ∀ W, Only [] w W →
    Calls Try.prog 27 #[.pointer (some ⟨j, 0, none⟩)] W fun e w' => e = .returned (.int .i64 (32 * (n : Int) - (A.fin : Int))) ∧ Only [] w w' := fun W hW => by
  refine (room_of (h.keep hW).jn h.n256.2 h.af).mono ?_
  rintro e w' ⟨rfl, k, rfl⟩
  exact ⟨rfl, hW.drewN k⟩
theorem jd_rroom {w0 w : World} {p b q g j jr n : Nat} {rb rr : Option Nat} {A B : JT} (h : Jd w0 w p b q g j jr rb rr n A B) : ∀ W, Only [] w W →
    Calls Try.prog 28 #[.pointer (some ⟨jr, 0, none⟩)] W fun e w' => e = .returned (.int .i64 (32 * (n : Int) - (B.fin : Int))) ∧ Only [] w w' := fun W hW => by
  refine (RRoom_of (h.keep hW).jx h.n256.2 h.bf).mono ?_
  rintro e w' ⟨rfl, k, rfl⟩
  exact ⟨rfl, hW.drewN k⟩
theorem jd_row {w0 w : World} {p b q g j jr n : Nat} {rb rr : Option Nat} {A B : JT} (h : Jd w0 w p b q g j jr rb rr n A B) : ∃ (a : Option Addr) (m c : Nat), w.cell? ⟨jr, 3, none⟩ = some (.slice a m c) ∧ RowS w (.slice a m c) B.l := by
  obtain ⟨v, hv, hown, _⟩ := h.jx.ex
  obtain ⟨a, m, c, rfl⟩ := own_slice hown
  exact ⟨a, m, c, blk_cell hv 3, RowS.of_own hown⟩
/-- 32 bytes that begin with some. -/
def blkS (t : Bs) : Bs := (t ++ zs 32).take 32
set_option maxHeartbeats 2000000 in
theorem block_of (s : ByteArray) (hs : s.size ≤ 500) (w : World) : Calls Try.prog 19 #[.string s] w fun e w' => e = .returned (.string (mkS (blkS s.data.toList))) ∧ w = w' := by
  have hsl : s.data.toList.length = s.size := rfl
  go_enter Try.func19, Try.ntmps19
  obtain ⟨L, hL⟩ : ∃ L, L = s.data.toList := ⟨_, rfl⟩
  rw [← hL]
  have hs0 : s = mkS (L ++ zs 0) := by rw [hL]; show s = mkS (s.data.toList ++ []); rw [List.append_nil, mkS_list]
  have hLl : L.length = s.size := by rw [hL]; rfl
  rw [← hLl] at hs
  rw [hs0]
  have HLL := Lib.hid hs
  clear hL hs0 hLl hsl hs
  go_wp2
  go_loopw [0] (fun sv wr => ∃ k : Nat, sv = .string (mkS (L ++ zs k)) ∧ (k = 0 ∨ L.length + k ≤ 32) ∧ w = wr) (fun sv _ => 32 - (match sv with | .string b => b.size | _ => 0))
  case atStart => exact ⟨0, rfl, Or.inl rfl, rfl⟩
  case round =>
    obtain ⟨k, rfl, hk, rfl⟩ := hrel
    have hAs : (mkS (L ++ zs k)).size = L.length + k := by rw [size_mkS, List.length_append, zs_length]
    have hsn : mkS (L ++ zs (k + 1)) = mkS (L ++ zs k) ++ { data := #[0] } := by
      rw [show ({ data := #[0] } : ByteArray) = mkS [0] from rfl, mkS_append, List.append_assoc]
      congr 2
      exact List.replicate_succ'
    have hex : (mkS (L ++ zs k)).extract 0 32 = mkS ((L ++ zs k).take 32) := by rw [mkS_extract, list_mkS]; rfl
    have hle := HLL.out
    obtain ⟨A, hA⟩ : ∃ A, A = mkS (L ++ zs k) := ⟨_, rfl⟩
    rw [← hA] at hAs hsn hex ⊢
    obtain ⟨O, hO⟩ : ∃ O : ByteArray, O = { data := #[0] } := ⟨_, rfl⟩
    have hO2 : ({ data := #[0] } : ByteArray) = O := hO.symm
    have hOs : O.size = 1 := by rw [hO]; rfl
    rw [hO2] at hsn
    have HSN := Lib.hid hsn
    obtain ⟨N, hN⟩ : ∃ N, N = L.length + k := ⟨_, rfl⟩
    rw [← hN] at hAs
    have HN := Lib.hid hN
    have HA := Lib.hid hA
    by_cases h32 : N < 32
    · have r1 : ∀ W : World, (Op.stringOp .add A O).run Try.prog W = .ok (.string (A ++ O)) W := fun W => by rw [run_string_add_sum W A O (by omega)]
      have hc1 : (N : Int) < 32 := by omega
      have HK : Hid (L.length + (k + 1) ≤ 32 ∧ (A ++ O).size = N + 1) := ⟨by omega, by rw [← hsn, size_mkS, List.length_append, zs_length]; omega⟩
      have HAS := Lib.hid hAs
      clear hA hO hsn hex hN
      go_wp2
      go_roundw
      case rel => exact ⟨k + 1, by rw [HSN.out], Or.inr HK.out.1, trivial⟩
      case measure => show 32 - (A ++ O).size < 32 - A.size; have := HK.out.2; have := HAS.out; omega
    · have hc1 : ¬ (N : Int) < 32 := by omega
      have hc2 : (32 : Int) ≤ (N : Int) := by omega
      have hfin : (L ++ zs k).take 32 = blkS L := by
        unfold blkS
        rcases hk with rfl | hk
        · rw [List.take_append_of_le_length (by omega), List.take_append_of_le_length (by omega)]
        · have : k ≤ 32 := by omega
          rw [List.take_append, List.take_append, zs_take k (32 - L.length) (by omega), zs_take 32 (32 - L.length) (by omega)]
      rw [hfin] at hex
      clear hA hO hsn hN hfin
      go_wp2
      go_ret
      exact ⟨by rw [← hex]; rfl, rfl⟩
end Go.Proofs.Ytngcdkbnljoodaa
