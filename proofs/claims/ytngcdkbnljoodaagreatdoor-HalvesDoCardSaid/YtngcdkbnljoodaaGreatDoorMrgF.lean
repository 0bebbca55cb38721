/- Halves: a journal's append by values, a half cleared (plain), where a half lies. No conditions beyond those typed. Halves: a half is cleared, and gets records. No conditions beyond those typed. -/
import Derived.Test.YtngcdkbnljoodaaGreatDoorHalB
namespace Go.Proofs.YtngcdkbnljoodaaGreatDoor
set_option linter.unusedVariables false
set_option linter.unusedSimpArgs false
open Go.RowKit Go.Proofs.YtngcdkbnljoodaaGreatDoorW.PrintWords

/-- A journal's values. -/
structure JS where
  s : St
  l : List Bs
  fin : Nat
  o : Bool
def JS.app (pf nb : Nat) (A : JS) (t : Bs) : JS × Int :=
  if t.length = 0 ∨ 400 < t.length then (A, 3)
  else if 32 * nb < A.fin + (t.length + 8) then (A, 14)
  else if A.o = true then (A, 16)
  else if (appendS A.s pf nb A.fin (frameL t)).2 = 0 then ({ s := (appendS A.s pf nb A.fin (frameL t)).1, l := A.l ++ [t], fin := A.fin + (t.length + 8), o := false }, 0)
  else ({ s := (appendS A.s pf nb A.fin (frameL t)).1, l := A.l, fin := A.fin, o := true }, (appendS A.s pf nb A.fin (frameL t)).2)
theorem hputL_n (pf : Nat) (all was : Bs) (must : Bool) : ∀ (k i : Nat) (s : St), s.Wf → (putL pf all was must k i s).1.n = s.n ∧ (putL pf all was must k i s).1.Wf := by
  intro k
  induction k with
  | zero => intro i s h; exact ⟨rfl, h⟩
  | succ k ih =>
    intro i s hs
    have hw := St.write_wf hs ((pf + i : Nat) : Int) (blk all i)
    rw [putL]
    split
    · exact ih _ _ hs
    · split
      · exact ⟨hw.2.1, hw.1⟩
      · exact ⟨(ih _ _ hw.1).1.trans hw.2.1, (ih _ _ hw.1).2⟩
theorem hopenS_n {s : St} (hs : s.Wf) (pf nb fin : Nat) : (openS s pf nb fin).1.n = s.n ∧ (openS s pf nb fin).1.Wf := hputL_n _ _ _ _ _ _ _ hs
theorem happendS_n {s : St} (hs : s.Wf) (pf nb fin : Nat) (f : Bs) : (appendS s pf nb fin f).1.n = s.n ∧ (appendS s pf nb fin f).1.Wf := hputL_n _ _ _ _ _ _ _ hs
/-- Bounds of a journal's values. -/
structure JS.Ok (pf nb : Nat) (A : JS) : Prop where
  wf : A.s.Wf
  has : A.s.Has pf nb
  fin : A.fin ≤ 32 * nb
  len : A.l.length ≤ A.fin
theorem JS.app_ok {pf nb : Nat} {A : JS} (h : A.Ok pf nb) (t : Bs) : (A.app pf nb t).1.Ok pf nb ∧ (A.app pf nb t).1.s.n = A.s.n := by
  have hn := happendS_n h.wf pf nb A.fin (frameL t)
  have hh : (appendS A.s pf nb A.fin (frameL t)).1.Has pf nb := by have := h.has; unfold St.Has at this ⊢; rw [hn.1]; exact this
  have h1 := h.fin
  have h2 := h.len
  unfold JS.app
  split
  · exact ⟨h, rfl⟩
  · split
    · exact ⟨h, rfl⟩
    · split
      · exact ⟨h, rfl⟩
      · split
        · exact ⟨⟨hn.2, hh, by show A.fin + _ ≤ _; omega, by show (A.l ++ [t]).length ≤ A.fin + _; rw [List.length_append]; simp; omega⟩, hn.1⟩
        · exact ⟨⟨hn.2, hh, h1, h2⟩, hn.1⟩
def AppAny (p b j : Nat) (rb : Option Nat) (pf nb : Nat) (A : JS) (t : Bs) (w : World) (e : Ending) (w' : World) : Prop :=
  e = .returned (.int .i64 (A.app pf nb t).2) ∧ Only ([p, b] ++ (j :: rb.toList)) w w' ∧ StoreIs w' p b (A.app pf nb t).1.s ∧
    ∃ rb', (∀ g, rb' = some g → rb = some g ∨ w.heap.size ≤ g) ∧ JnIs w' j rb' p pf nb (A.app pf nb t).1.l (A.app pf nb t).1.fin (A.app pf nb t).1.o
theorem app_any {w : World} {p b j pf nb : Nat} {rb : Option Nat} {A : JS} (hs : StoreIs w p b A.s) (hj : JnIs w j rb p pf nb A.l A.fin A.o) (hk : A.Ok pf nb) (d : ByteArray) :
    Calls Tryz.prog 39 #[.pointer (some ⟨j, 0, none⟩), .string d] w (AppAny p b j rb pf nb A d.data.toList w) := by
  have hdl : d.data.toList.length = d.size := rfl
  have hn : nb ≤ 256 := by have := hk.wf.hi; have := hk.has.2; omega
  have hf := hk.fin
  have ha := hk.len
  obtain ⟨aw, hj2⟩ := hs.lt
  have hsz : ∀ w', Only [] w w' → StoreIs w' p b A.s ∧ JnIs w' j rb p pf nb A.l A.fin A.o ∧ Only ([p, b] ++ (j :: rb.toList)) w w' := fun w' ho => ⟨hs.only ho (by simp) (by simp), hj.only ho (by simp) (by simp), ho.mono (by simp)⟩
  unfold AppAny JS.app
  rw [hdl]
  by_cases hb : d.size = 0 ∨ 400 < d.size
  · rw [if_pos hb]
    refine (append_bad d hb).mono ?_
    rintro e w' ⟨rfl, hw'⟩
    rw [← hw']
    obtain ⟨a1, a2, a3⟩ := hsz w (Only.refl _ _)
    exact ⟨rfl, a3, a1, rb, fun g h => Or.inl h, a2⟩
  · rw [if_neg hb]
    by_cases hr : 32 * nb < A.fin + (d.size + 8)
    · rw [if_pos hr]
      refine (append_not hj hn hf d (by omega) (by omega) (Or.inl (by omega))).mono ?_
      rintro e w' ⟨rfl, hbel⟩
      obtain ⟨a1, a2, a3⟩ := hsz w' (Only.of_below hbel)
      exact ⟨by rw [if_pos (show 32 * nb - A.fin < d.size + 8 by omega)], a3, a1, rb, fun g h => Or.inl h, a2⟩
    · rw [if_neg hr]
      by_cases ho : A.o = true
      · rw [if_pos ho]
        refine (append_not hj hn hf d (by omega) (by omega) (Or.inr ho)).mono ?_
        rintro e w' ⟨rfl, hbel⟩
        obtain ⟨a1, a2, a3⟩ := hsz w' (Only.of_below hbel)
        exact ⟨by rw [if_neg (show ¬ 32 * nb - A.fin < d.size + 8 by omega)], a3, a1, rb, fun g h => Or.inl h, a2⟩
      · rw [if_neg ho]
        have hoo : A.o = false := by cases h : A.o; rfl; exact absurd h ho
        rw [hoo] at hj
        refine (append_go hs hj hk.has d (by omega) (by omega) (by omega) (by omega)).mono ?_
        rintro e w' ⟨hO, hst, rfl, (⟨hne, hjn⟩ | ⟨h0, rb', hrb', hjn⟩)⟩
        · rw [if_neg hne]
          exact ⟨rfl, hO, hst, rb, fun g h => Or.inl h, hjn⟩
        · rw [if_pos h0]
          exact ⟨by rw [h0], hO, hst, rb', hrb', hjn⟩
/-- A half is cleared, block by block. -/
def clrL (pf : Nat) : Nat → Nat → St → St × Int
  | 0, _, s => (s, 0)
  | k + 1, i, s => if blk s.bs (pf + i) = zs 32 then clrL pf k (i + 1) s
      else if (s.write ((pf + i : Nat) : Int) (zs 32)).2 ≠ 0 then s.write ((pf + i : Nat) : Int) (zs 32)
      else clrL pf k (i + 1) (s.write ((pf + i : Nat) : Int) (zs 32)).1
theorem blk_zs {nb i : Nat} (h : i < nb) : blk (zs (32 * nb)) i = zs 32 := by
  unfold blk
  rw [zs_drop, zs_take _ _ (by omega)]
theorem blk_mid {A all was B bs : Bs} {pf nb i : Nat} (hA : A.length = 32 * pf) (h1 : all.length = 32 * nb) (h2 : was.length = 32 * nb) (hi : i < nb) (hb : bs = A ++ (all.take (32 * i) ++ was.drop (32 * i)) ++ B) : blk bs (pf + i) = blk was i := by
  unfold blk
  have ht : (all.take (32 * i)).length = 32 * i := by rw [List.length_take]; omega
  rw [hb, List.append_assoc, List.append_assoc, Nat.mul_add, ← List.append_assoc, List.drop_append_of_le_length (by rw [List.length_append, hA, ht]; omega), List.drop_of_length_le (by rw [List.length_append, hA, ht]; omega), List.nil_append,
    List.take_append_of_le_length (by rw [List.length_drop]; omega)]
theorem clr_put (pf nb : Nat) (was A B : Bs) (hA : A.length = 32 * pf) (h2 : was.length = 32 * nb) : ∀ (k i : Nat) (s : St), s.Wf → s.bs = A ++ ((zs (32 * nb)).take (32 * i) ++ was.drop (32 * i)) ++ B → i + k ≤ nb →
    clrL pf k i s = putL pf (zs (32 * nb)) was false k i s := by
  intro k
  induction k with
  | zero => intro i s _ _ _; rfl
  | succ k ih =>
    intro i s hs hbs hk
    have hm := blk_mid hA (zs_length _) h2 (show i < nb by omega) hbs
    have hz : blk (zs (32 * nb)) i = zs 32 := blk_zs (by omega)
    have h1 := put_spec pf nb (zs (32 * nb)) was A B false hA (zs_length _) h2 1 i s hs hbs (by omega)
    rw [clrL, putL, hm, hz]
    rw [putL, putL, putL, hz] at h1
    by_cases he : blk was i = zs 32
    · rw [if_pos he, if_pos ⟨rfl, he.symm⟩]
      rw [if_pos ⟨rfl, he.symm⟩] at h1
      obtain ⟨a1, _, _, (⟨_, a2, _⟩ | ⟨a2, _⟩), _⟩ := h1
      · exact ih (i + 1) s hs a2 (by omega)
      · simp at a2
    · rw [if_neg he, if_neg (show ¬ (false = false ∧ zs 32 = blk was i) from fun h => he h.2.symm)]
      rw [if_neg (show ¬ (false = false ∧ zs 32 = blk was i) from fun h => he h.2.symm)] at h1
      by_cases h0 : (s.write ((pf + i : Nat) : Int) (zs 32)).2 ≠ 0
      · rw [if_pos h0, if_pos h0]
      · rw [if_neg h0, if_neg h0]
        rw [if_neg h0] at h1
        obtain ⟨a1, _, _, (⟨_, a2, _⟩ | ⟨a2, _⟩), _⟩ := h1
        · exact ih (i + 1) _ a1 a2 (by omega)
        · simp at a2
theorem clr_open {s : St} (hs : s.Wf) {pf nb : Nat} (h : s.Has pf nb) : clrL pf nb 0 s = openS s pf nb 0 := by
  have h2 := partB_length hs h
  have hl := hs.len
  have h3 := h.2
  have hz : openAll (partB s pf nb) 0 = zs (32 * nb) := by unfold openAll; rw [List.take_zero, List.nil_append, h2]; rfl
  unfold openS
  rw [hz]
  exact clr_put pf nb (partB s pf nb) (s.bs.take (32 * pf)) (s.bs.drop (32 * (pf + nb))) (by rw [List.length_take]; omega) h2 nb 0 s hs (by rw [Nat.mul_zero, List.take_zero, List.nil_append, List.drop_zero]; exact part_split hs h) (by omega)
theorem put_all_same (pf : Nat) (all : Bs) : ∀ (k i : Nat) (s : St), putL pf all all false k i s = (s, 0) := by
  intro k
  induction k with
  | zero => intro i s; rfl
  | succ k ih => intro i s; rw [putL, if_pos ⟨rfl, rfl⟩]; exact ih _ _
theorem open_same {s : St} {pf nb : Nat} (hz : partB s pf nb = zs (32 * nb)) : openS s pf nb 0 = (s, 0) := by
  unfold openS
  have : openAll (partB s pf nb) 0 = partB s pf nb := by unfold openAll; rw [List.take_zero, List.nil_append, hz, zs_length]; rfl
  rw [this]
  exact put_all_same _ _ _ _ _
/-- A half is cleared: the law. -/
theorem clr_part {s : St} (hs : s.Wf) {pf nb : Nat} (h : s.Has pf nb) (h0 : (openS s pf nb 0).2 = 0) : partB (openS s pf nb 0).1 pf nb = zs (32 * nb) := by
  have h2 := partB_length hs h
  have hz : openAll (partB s pf nb) 0 = zs (32 * nb) := by unfold openAll; rw [List.take_zero, List.nil_append, h2]; rfl
  obtain ⟨(⟨_, ht, _⟩ | ⟨h16, _⟩), _⟩ := openS_spec hs h (Nat.zero_le _)
  · rw [hz] at ht
    exact ht.part hs h (zs_length _)
  · rw [h16] at h0; cases h0
/-- Records are laid in a half. -/
def JS.apps (pf nb : Nat) : JS → List Bs → JS × Int
  | A, [] => (A, 0)
  | A, r :: t => if (A.app pf nb r).2 = 0 then JS.apps pf nb (A.app pf nb r).1 t else A.app pf nb r
def freshS (s : St) (pf nb : Nat) (rs : List Bs) : JS × Int :=
  if (openS s pf nb 0).2 ≠ 0 then (⟨(openS s pf nb 0).1, [], 0, false⟩, (openS s pf nb 0).2) else JS.apps pf nb ⟨(openS s pf nb 0).1, [], 0, false⟩ rs
theorem JS.apps_ok {pf nb : Nat} : ∀ (rs : List Bs) {A : JS}, A.Ok pf nb → (JS.apps pf nb A rs).1.Ok pf nb ∧ (JS.apps pf nb A rs).1.s.n = A.s.n
  | [], A, h => ⟨h, rfl⟩
  | r :: t, A, h => by
    obtain ⟨h1, h2⟩ := JS.app_ok h r
    rw [JS.apps]
    split
    · obtain ⟨h3, h4⟩ := JS.apps_ok t h1
      exact ⟨h3, h4.trans h2⟩
    · exact ⟨h1, h2⟩
theorem open_js {s : St} (hs : s.Wf) {pf nb : Nat} (h : s.Has pf nb) : JS.Ok pf nb ⟨(openS s pf nb 0).1, [], 0, false⟩ ∧ (openS s pf nb 0).1.n = s.n := by
  have hn := hopenS_n hs pf nb 0
  exact ⟨⟨hn.2, by unfold St.Has at h ⊢; rw [hn.1]; exact h, Nat.zero_le _, Nat.le_refl _⟩, hn.1⟩
theorem fresh_ok {s : St} (hs : s.Wf) {pf nb : Nat} (h : s.Has pf nb) (rs : List Bs) : (freshS s pf nb rs).1.Ok pf nb ∧ (freshS s pf nb rs).1.s.n = s.n := by
  obtain ⟨h1, h2⟩ := open_js hs h
  unfold freshS
  split
  · exact ⟨h1, h2⟩
  · obtain ⟨h3, h4⟩ := JS.apps_ok rs h1
    exact ⟨h3, h4.trans h2⟩
theorem hblocks_of {w : World} {p b : Nat} {s : St} (h : StoreIs w p b s) (k : Nat) (hk : k ≤ 1) :
    Calls Tryz.prog 30 #[.pointer (some ⟨p, 0, none⟩), .int .i64 (k : Int)] w fun e w' => e = .returned (.tuple #[.int .i64 ((k * (s.n / 2) : Nat) : Int), .int .i64 ((s.n / 2 : Nat) : Int)]) ∧ w = w' := by
  have hn := h.wf.hi
  have HB := Lib.hid (fun W (hW : Only [] w W) => blocks_of (h.only hW (by simp) (by simp)))
  obtain ⟨N, hN⟩ : ∃ N : Nat, N = s.n / 2 := ⟨_, rfl⟩
  obtain ⟨M, hM⟩ : ∃ M : Nat, M = k * (s.n / 2) := ⟨_, rfl⟩
  have hm1 : M ≤ 256 := by
    rw [hM]
    rcases (show k = 0 ∨ k = 1 by omega) with rfl | rfl <;> omega
  have hd : (s.n : Int) / 2 = (N : Int) := by omega
  have hw1 : IntKind.i64.wrap (N : Int) = (N : Int) := IntWalk.i64_in _ (by omega)
  have hmul : (k : Int) * (N : Int) = (M : Int) := by rw [hM, hN]; simp
  have hw2 : IntKind.i64.wrap (M : Int) = (M : Int) := IntWalk.i64_in _ (by omega)
  rw [← hM, ← hN]
  clear h hn hM hN
  go_enter Tryz.func30, Tryz.ntmps30
  go_wp2_with fail
  refine (HB.out w (Only.refl _ _)).mono ?_
  rintro e w2 ⟨rfl, hw2⟩
  subst w2
  go_wp2_with fail
  go_ret2
  exact ⟨rfl, rfl⟩
end Go.Proofs.YtngcdkbnljoodaaGreatDoor

namespace Go.Proofs.YtngcdkbnljoodaaGreatDoor
set_option linter.unusedVariables false
set_option linter.unusedSimpArgs false
open Go.RowKit Go.Proofs.YtngcdkbnljoodaaGreatDoorW.PrintWords

theorem add_blk (ad : Addr) (k : Nat) : (ad.add k).block = ad.block := by unfold Addr.add; split <;> rfl
/-- A row of strings that doesn't lie in a store. -/
def RowA (w : World) (v : Value) (l : List Bs) (p b : Nat) : Prop := ∃ a cap, v = .slice a l.length cap ∧ ∀ k x, l[k]? = some x → ∃ ad, a = some ad ∧ ad.block ≠ p ∧ ad.block ≠ b ∧ w.cell? (ad.add k) = some (strV x)
theorem rowA_keep {S : List Nat} {w w' : World} {a : Option Addr} {l : List Bs} {p b : Nat} (hS : ∀ x, x ∈ S → x = p ∨ x = b) (hc : ∀ k x, l[k]? = some x → ∃ ad, a = some ad ∧ ad.block ≠ p ∧ ad.block ≠ b ∧ w.cell? (ad.add k) = some (strV x)) (ho : Only S w w') :
    ∀ k x, l[k]? = some x → ∃ ad, a = some ad ∧ ad.block ≠ p ∧ ad.block ≠ b ∧ w'.cell? (ad.add k) = some (strV x) := fun k x hx => by
  obtain ⟨ad, hp, h1, h2, hq⟩ := hc k x hx
  refine ⟨ad, hp, h1, h2, ?_⟩
  have hlt : (ad.add k).block < w.heap.size := by
    rcases Nat.lt_or_ge (ad.add k).block w.heap.size with h | h
    · exact h
    · unfold World.cell? at hq
      rw [Array.getElem?_eq_none h] at hq
      simp at hq
  exact (World.cell?_of_block (ho.block _ hlt (fun hm => by rcases hS _ hm with h | h; exact h1 ((add_blk ad k).symm.trans h); exact h2 ((add_blk ad k).symm.trans h)))).trans hq
def FreshPost (s : St) (p b pf nb : Nat) (rs : List Bs) (w : World) (e : Ending) (w' : World) : Prop :=
  Only [p, b] w w' ∧ StoreIs w' p b (freshS s pf nb rs).1.s ∧ ∃ po, e = .returned (.tuple #[.pointer po, .int .i64 (freshS s pf nb rs).2]) ∧
    ((freshS s pf nb rs).2 = 0 → ∃ j rb, po = some ⟨j, 0, none⟩ ∧ w.heap.size ≤ j ∧ (∀ g, rb = some g → w.heap.size ≤ g) ∧ JnIs w' j rb p pf nb (freshS s pf nb rs).1.l (freshS s pf nb rs).1.fin (freshS s pf nb rs).1.o)
/-- While records are laid. -/
structure FrIn (w wq : World) (p b j pf nb : Nat) (A0 A : JS) (rb : Option Nat) (rs : List Bs) (q : Nat) (c : Int) : Prop where
  st : StoreIs wq p b A.s
  jn : JnIs wq j rb p pf nb A.l A.fin A.o
  ok : A.Ok pf nb
  gj : w.heap.size ≤ j
  gr : ∀ g, rb = some g → w.heap.size ≤ g
  on : Only [p, b] w wq
  go : c = 0 → JS.apps pf nb A0 rs = JS.apps pf nb A (rs.drop q)
  no : c ≠ 0 → JS.apps pf nb A0 rs = (A, c)
theorem FrIn.skip {w wq : World} {p b j pf nb : Nat} {A0 A : JS} {rb : Option Nat} {rs : List Bs} {q : Nat} {c : Int} (h : FrIn w wq p b j pf nb A0 A rb rs q c) (hc : c ≠ 0) : FrIn w wq p b j pf nb A0 A rb rs (q + 1) c :=
  ⟨h.st, h.jn, h.ok, h.gj, h.gr, h.on, fun h0 => absurd h0 hc, h.no⟩
theorem FrIn.step {w wq w' : World} {p b j pf nb : Nat} {A0 A : JS} {rb : Option Nat} {rs : List Bs} {q : Nat} (h : FrIn w wq p b j pf nb A0 A rb rs q 0) {x : Bs} (hx : rs[q]? = some x) {e : Ending} (hp : AppAny p b j rb pf nb A x wq e w') :
    e = .returned (.int .i64 (A.app pf nb x).2) ∧ ∃ rb', FrIn w w' p b j pf nb A0 (A.app pf nb x).1 rb' rs (q + 1) (A.app pf nb x).2 := by
  obtain ⟨he, hO, hst, rb', hrb, hjn⟩ := hp
  have hdr : rs.drop q = x :: rs.drop (q + 1) := by
    obtain ⟨h1, h2⟩ := List.getElem?_eq_some_iff.1 hx
    rw [List.drop_eq_getElem_cons h1, h2]
  have hgo := h.go rfl
  rw [hdr, JS.apps] at hgo
  refine ⟨he, rb', hst, hjn, (JS.app_ok h.ok x).1, h.gj, fun g hg => ?_, h.on.trans hO ?_, fun h0 => ?_, fun h0 => ?_⟩
  · rcases hrb g hg with h1 | h1
    · exact h.gr g h1
    · have := h.on.size; omega
  · intro z hz
    rcases List.mem_append.1 hz with h1 | h1
    · exact Or.inl h1
    · rcases List.mem_cons.1 h1 with h2 | h2
      · rw [h2]; exact Or.inr h.gj
      · exact Or.inr (h.gr z (by simpa using h2))
  · rw [hgo, if_pos h0]
  · rw [hgo, if_neg h0]
theorem FrIn.fin {w wq : World} {p b j pf nb : Nat} {s : St} {A : JS} {rb : Option Nat} {rs : List Bs} {c : Int} {q : Nat} (h0 : (openS s pf nb 0).2 = 0) (h : FrIn w wq p b j pf nb ⟨(openS s pf nb 0).1, [], 0, false⟩ A rb rs q c) (hq : rs.length ≤ q) :
    FreshPost s p b pf nb rs w (.returned (.tuple #[.pointer (some ⟨j, 0, none⟩), .int .i64 c])) wq := by
  have hf : freshS s pf nb rs = (A, c) := by
    unfold freshS
    rw [if_neg (by simp [h0])]
    by_cases hc : c = 0
    · rw [h.go hc, List.drop_of_length_le hq, hc]; rfl
    · exact h.no hc
  unfold FreshPost
  rw [hf]
  exact ⟨h.on, h.st, _, rfl, fun _ => ⟨j, rb, rfl, h.gj, h.gr, h.jn⟩⟩
/-- While a half is cleared. -/
structure ClIn (w wq : World) (p b pf nb : Nat) (s si : St) (i : Nat) : Prop where
  st : StoreIs wq p b si
  n : si.n = s.n
  on : Only [p, b] w wq
  run : openS s pf nb 0 = clrL pf (nb - i) i si
set_option maxHeartbeats 4000000 in
set_option maxRecDepth 100000 in
theorem fresh_of {w : World} {p b : Nat} {s : St} (h : StoreIs w p b s) (h2 : 2 ≤ s.n) (k pf nb : Nat) (hk : k ≤ 1) (hpf : pf = k * (s.n / 2)) (hnb : nb = s.n / 2) {v : Value} {rs : List Bs} (hv : RowA w v rs p b) (hl : rs.length ≤ 100000) (hx : ∀ x ∈ rs, x.length ≤ 140737488355328) :
    Calls Tryz.prog 33 #[.pointer (some ⟨p, 0, none⟩), .int .i64 (k : Int), v] w (FreshPost s p b pf nb rs w) := by
  obtain ⟨a, cap, rfl, hc⟩ := hv
  have HC := Lib.hid hc
  have HX := Lib.hid hx
  have hn := h.wf.hi
  have hh : s.Has pf nb := by
    constructor
    · omega
    · rw [hpf, hnb]
      rcases (show k = 0 ∨ k = 1 by omega) with rfl | rfl <;> omega
  have HH := Lib.hid hh
  have HWF := Lib.hid h.wf
  have HS := Lib.hid h
  obtain ⟨M, hM⟩ : ∃ M, M = rs.length := ⟨_, rfl⟩
  rw [← hM] at hl ⊢
  have HM := Lib.hid hM
  have HCO := Lib.hid (clr_open h.wf hh)
  have HBL := Lib.hid (fun W (hW : Only [p, b] w W) (hs : StoreIs W p b s) => hblocks_of hs k hk)
  rw [← hpf, ← hnb] at HBL
  obtain ⟨T, hT⟩ : ∃ T : Nat, T = pf + nb := ⟨_, rfl⟩
  have hsum : (pf : Int) + (nb : Int) = (T : Int) := by omega
  have hTb : T ≤ 256 := by have := hh.2; omega
  have hwT : IntKind.i64.wrap (T : Int) = (T : Int) := IntWalk.i64_in _ (by omega)
  obtain ⟨ZB, hZB⟩ : ∃ ZB, ZB = mkS (zs 32) := ⟨_, rfl⟩
  have HRP : Hid (∀ W, Calls Tryz.prog 57 #[.string { data := #[0] }, .int .i64 32] W fun e w' => e = .returned (.string ZB) ∧ Below W.heap.size W w') := fun W => by
    have hr := Tryz.strings_Repeat (mkS [0]) 32 W (by omega) (by rw [size_mkS]; simp)
    rw [list_mkS, repeat_zs] at hr
    rw [hZB]
    exact hr
  have hZl : ZB.data.toList = zs 32 := by rw [hZB, list_mkS]
  have HTT : Hid (T = pf + nb) := hT
  clear h h2 hpf hnb hc hx hh hM hT hZB
  go_enter Tryz.func33, Tryz.ntmps33
  go_wp2_with fail
  refine (HBL.out w (Only.refl _ _) HS.out).mono ?_
  rintro e w1 ⟨rfl, hw1⟩
  subst w1
  go_wp2_with fail
  refine (HRP.out w).mono ?_
  rintro e w1 ⟨rfl, hb1⟩
  have HI : Hid (ClIn w w1 p b pf nb s s 0) := ⟨HS.out.below hb1, rfl, Only.of_below hb1, HCO.out.symm⟩
  clear hb1 HBL HRP HS
  go_wp2_with fail
  go_loopw [11] (fun iv wq => ∃ (i : Nat) (si : St), iv = .int .i64 ((pf + i : Nat) : Int) ∧ i ≤ nb ∧ Hid (ClIn w wq p b pf nb s si i)) (fun iv _ => T - (intOf iv).toNat)
  case atStart => exact ⟨0, s, rfl, Nat.zero_le _, HI⟩
  case round =>
    clear HI
    obtain ⟨i, si, rfl, hi, HI⟩ := hrel
    obtain ⟨I, hI⟩ : ∃ I, I = pf + i := ⟨_, rfl⟩
    rw [← hI]
    by_cases hin : i < nb
    · have c1 : (I : Int) < (T : Int) := by have := HTT.out; omega
      obtain ⟨A1, hA1⟩ : ∃ A1 : Nat, A1 = 32 * I := ⟨_, rfl⟩
      obtain ⟨A2, hA2⟩ : ∃ A2 : Nat, A2 = 32 * I + 32 := ⟨_, rfl⟩
      have hIb : I < 256 := by have := HTT.out; omega
      have hIn : I < si.n := by rw [HI.out.n]; have := HH.out.2; omega
      have m1 : (I : Int) * 32 = (A1 : Int) := by omega
      have m2 : (A1 : Int) + 32 = (A2 : Int) := by omega
      have m3 : IntKind.i64.wrap (A1 : Int) = (A1 : Int) := IntWalk.i64_in _ (by omega)
      have m4 : IntKind.i64.wrap (A2 : Int) = (A2 : Int) := IntWalk.i64_in _ (by omega)
      obtain ⟨BB, hBB⟩ : ∃ BB, BB = mkS si.bs := ⟨_, rfl⟩
      have hBs : BB.size = 32 * si.n := by rw [hBB, size_mkS, HI.out.st.wf.len]
      have l0 : (0 : Int) ≤ (A1 : Int) := by omega
      have l1 : (A1 : Int) ≤ (A2 : Int) := by omega
      have l2 : (A2 : Int) ≤ (BB.size : Int) := by omega
      obtain ⟨XB, hXB⟩ : ∃ XB, XB = mkS (blk si.bs I) := ⟨_, rfl⟩
      have hex : BB.extract A1 A2 = XB := by rw [hBB, mkS_extract, hXB, hA1, hA2, list_mkS, show 32 * I + 32 - 32 * I = 32 by omega]; rfl
      have heq : (XB.toList == ZB.toList) = decide (blk si.bs I = zs 32) := by
        rw [ByteArray.toList_eq, ByteArray.toList_eq, hZl, hXB, list_mkS, Bool.eq_iff_iff, beq_iff_eq, decide_eq_true_iff]
      have HBY : Hid (∀ W, W = wr → Calls Tryz.prog 21 #[.pointer (some ⟨p, 0, none⟩)] W fun e w' => e = .returned (.string BB) ∧ Below W.heap.size W w') := fun W hW => by rw [hW, hBB]; exact bytes_of HI.out.st
      have HRUN : Hid (openS s pf nb 0 = if blk si.bs I = zs 32 then clrL pf (nb - (i + 1)) (i + 1) si else if (si.write ((pf + i : Nat) : Int) (zs 32)).2 ≠ 0 then si.write ((pf + i : Nat) : Int) (zs 32) else clrL pf (nb - (i + 1)) (i + 1) (si.write ((pf + i : Nat) : Int) (zs 32)).1) := by
        show _ = _
        rw [HI.out.run, show nb - i = (nb - (i + 1)) + 1 by omega, clrL, ← hI]
      have hwr : IntKind.i64.wrap ((I : Int) + 1) = (I : Int) + 1 := IntWalk.i64_in _ (by omega)
      have HII := Lib.hid hI
      have HZL := Lib.hid hZl
      clear hA1 hA2 hBB hXB hI hZl hBs
      go_wp2_with fail
      refine (HBY.out _ rfl).mono ?_
      rintro e w2 ⟨rfl, hb2⟩
      have HI2 : Hid (ClIn w w2 p b pf nb s si i) := ⟨HI.out.st.below hb2, HI.out.n, HI.out.on.tr (Only.of_below hb2), HI.out.run⟩
      clear hb2 HBY HI
      by_cases hz : blk si.bs I = zs 32
      · rw [decide_eq_true hz] at heq
        have HI3 : Hid (ClIn w w2 p b pf nb s si (i + 1)) := ⟨HI2.out.st, HI2.out.n, HI2.out.on, by rw [HRUN.out, if_pos hz]⟩
        clear hz
        go_wp2_with fail
        go_roundw
        case rel => exact ⟨i + 1, si, by rw [HII.out]; congr 1, by omega, HI3⟩
        case measure => simp [intOf]; omega
      · rw [decide_eq_false hz] at heq
        have HRUN2 : Hid (openS s pf nb 0 = if (si.write (I : Int) (zs 32)).2 ≠ 0 then si.write (I : Int) (zs 32) else clrL pf (nb - (i + 1)) (i + 1) (si.write (I : Int) (zs 32)).1) := by
          show _ = _
          rw [HRUN.out, if_neg hz, ← HII.out]
        have HW := Lib.hid (write_of HI2.out.st (I : Int) ZB)
        rw [HZL.out] at HW
        have hwf := St.write_wf HI2.out.st.wf (I : Int) (zs 32)
        clear hz HRUN
        generalize si.write (I : Int) (zs 32) = r at *
        obtain ⟨s', c⟩ := r
        go_wp2_with fail
        refine (HW.out).mono ?_
        rintro e w3 ⟨rfl, hs3, ho3⟩
        have HS3 := Lib.hid hs3
        have HO3 : Hid (Only [p, b] w w3) := HI2.out.on.tr ho3
        have HN3 : Hid (s'.n = s.n) := hwf.2.1.trans HI2.out.n
        clear hs3 ho3 hwf HW
        by_cases hc0 : c = 0
        · subst hc0
          have HI3 : Hid (ClIn w w3 p b pf nb s s' (i + 1)) := ⟨HS3.out, HN3.out, HO3.out, by rw [HRUN2.out, if_neg (by simp)]⟩
          go_wp2_with fail
          go_roundw
          case rel => exact ⟨i + 1, s', by rw [HII.out]; congr 1, by omega, HI3⟩
          case measure => simp [intOf]; omega
        · have hcb : (c == 0) = false := beq_eq_false_iff_ne.mpr hc0
          have HF : Hid (freshS s pf nb rs = (⟨s', [], 0, false⟩, c)) := by
            show _ = _
            have h9 : openS s pf nb 0 = (s', c) := by rw [HRUN2.out, if_pos hc0]
            unfold freshS
            rw [h9, if_pos hc0]
          go_wp2_with fail
          go_ret2
          unfold FreshPost
          rw [HF.out]
          exact ⟨HO3.out, HS3.out, none, rfl, fun h0 => absurd h0 hc0⟩
    · have hie : i = nb := by omega
      have cT : ¬ (I : Int) < (T : Int) := by have := HTT.out; omega
      have HRUN : Hid (openS s pf nb 0 = (si, 0)) := by
        show _ = _
        rw [HI.out.run, hie, Nat.sub_self]; rfl
      have hz : partB si pf nb = zs (32 * nb) := by
        have := clr_part HWF.out HH.out (by rw [HRUN.out])
        rw [HRUN.out] at this
        exact this
      have hhi : si.Has pf nb := by have := HH.out; unfold St.Has at this ⊢; rw [HI.out.n]; exact this
      have hsc : IsScan (partB si pf nb) [] (zs (32 * nb)) := ⟨by rw [hz]; rfl, by simp, oneL_zs _⟩
      have HP : Hid (Calls Tryz.prog 34 #[.pointer (some ⟨p, 0, none⟩), .int .i64 (pf : Int), .int .i64 (nb : Int)] wr fun e w' => ∃ (j : Nat) (v : Value), e = .returned (.tuple #[.pointer (some ⟨j, 0, none⟩), v, .int .i64 0]) ∧ ∃ rb, FrIn w w' p b j pf nb ⟨(openS s pf nb 0).1, [], 0, false⟩ ⟨(openS s pf nb 0).1, [], 0, false⟩ rb rs 0 0) := by
        refine (part_yes HI.out.st pf nb hhi).mono ?_
        rintro e w' ⟨hO, (⟨hB, _⟩ | ⟨a', c', l', t', ha, hc', _, hsc', hst, hre⟩)⟩
        · rw [isB_has hhi] at hB; cases hB
        · obtain rfl : pf = a' := by omega
          obtain rfl : nb = c' := by omega
          obtain ⟨rfl, _⟩ := hsc'.uniq hsc
          have hos : openS si pf nb 0 = (si, 0) := open_same hz
          rw [frames_nil, List.length_nil, hos] at hre hst
          rcases hre with ⟨h9, _⟩ | ⟨_, j, rb, v, hj, hrb, rfl, hjn, _⟩
          · exact absurd rfl h9
          · refine ⟨j, v, rfl, rb, ?_⟩
            rw [HRUN.out]
            exact ⟨hst, hjn, ⟨HI.out.st.wf, hhi, Nat.zero_le _, Nat.le_refl _⟩, by have := HI.out.on.size; omega, fun g hg => by have := HI.out.on.size; have := hrb g hg; omega, HI.out.on.tr hO, fun _ => rfl, fun h0 => absurd rfl h0⟩
      have HO0 : Hid ((openS s pf nb 0).2 = 0) := by show _ = _; rw [HRUN.out]
      clear hz hhi hsc HRUN hI HI hie
      go_wp2_with fail
      refine (HP.out).mono ?_
      rintro e w2 ⟨j, v2, rfl, rb, hfr⟩
      have HFR : Hid (∃ A rb, FrIn w w2 p b j pf nb ⟨(openS s pf nb 0).1, [], 0, false⟩ A rb rs 0 0) := ⟨_, rb, hfr⟩
      clear hfr HP
      go_wp2_with fail
      go_loopw [16, 61] (fun cv iv wq => ∃ (c : Int) (q : Nat), cv = .int .i64 c ∧ iv = .int .i64 (q : Int) ∧ q ≤ M ∧ Hid (∃ A rb, FrIn w wq p b j pf nb ⟨(openS s pf nb 0).1, [], 0, false⟩ A rb rs q c)) (fun _ iv _ => M - (intOf iv).toNat)
      case atStart => exact ⟨0, 0, rfl, rfl, Nat.zero_le _, HFR⟩
      case round =>
        clear HFR
        obtain ⟨c, q, rfl, rfl, hq, HFR⟩ := hrel
        obtain ⟨A, rb1, hfr⟩ := HFR.out
        have HFI := Lib.hid hfr
        by_cases hqM : q < M
        · obtain ⟨x, hx⟩ : ∃ x, rs[q]? = some x := ⟨_, List.getElem?_eq_getElem (by have := HM.out; omega)⟩
          obtain ⟨ad, rfl, _, _, hcx⟩ := rowA_keep (by simp) HC.out hfr.on q x hx
          unfold strV at hcx
          have d1 : (q : Int) < (M : Int) := by omega
          have d0 : (0 : Int) ≤ (q : Int) := by omega
          have hwr : IntKind.i64.wrap ((q : Int) + 1) = (q : Int) + 1 := IntWalk.i64_in _ (by omega)
          by_cases hc0 : c = 0
          · subst hc0
            have HAP := Lib.hid (app_any hfr.st hfr.jn hfr.ok (mkS x))
            rw [list_mkS] at HAP
            have HST := Lib.hid (fun e w' (hp : AppAny p b j rb1 pf nb A x wr e w') => hfr.step hx hp)
            clear hx hfr HFR
            go_wp2_with fail
            refine (HAP.out).mono ?_
            intro e w3 hp3
            obtain ⟨rfl, rb3, hfr3⟩ := HST.out e w3 hp3
            have HF3 := Lib.hid hfr3
            clear hp3 hfr3 HAP HST
            go_wp2_with fail
            go_roundw
            case rel => exact ⟨_, q + 1, rfl, rfl, by omega, ⟨_, _, HF3.out⟩⟩
            case measure => simp [intOf]; omega
          · have hcb : (c == 0) = false := beq_eq_false_iff_ne.mpr hc0
            have HF3 := Lib.hid (hfr.skip hc0)
            clear hx hfr HFR
            go_wp2_with fail
            go_roundw
            case rel => exact ⟨c, q + 1, rfl, rfl, by omega, ⟨_, _, HF3.out⟩⟩
            case measure => simp [intOf]; omega
        · have d1 : ¬ (q : Int) < (M : Int) := by omega
          have hle : rs.length ≤ q := by have := HM.out; omega
          have HFP := Lib.hid (hfr.fin HO0.out hle)
          clear hfr HFR hle
          go_wp2_with fail
          go_ret2
          exact HFP.out
end Go.Proofs.YtngcdkbnljoodaaGreatDoor

