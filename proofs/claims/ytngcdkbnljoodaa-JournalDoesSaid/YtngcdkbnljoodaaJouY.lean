/- A store with a journal: Open, Append, Room, Records in one predicate. No conditions beyond those typed. -/
import Derived.Test.YtngcdkbnljoodaaJouX
namespace Go.Proofs.Ytngcdkbnljoodaa
set_option linter.unusedVariables false
set_option linter.unusedSimpArgs false
open Go.RowKit Go.Proofs.YtngcdkbnljoodaaW.PrintWords

/-- A store that is up, and a journal of a part of it. -/
structure Live (w : World) (p b j : Nat) (rb : Option Nat) (s : St) (pf nb : Nat) (l : List Bs) : Prop where
  st : StoreIs w p b s
  jn : JnIs w j rb p pf nb l (frames l).length false
  sd : Sound s pf nb l
  up : s.down = false
theorem Live.only {S : List Nat} {w w' : World} {p b j pf nb : Nat} {rb : Option Nat} {s : St} {l : List Bs} (h : Live w p b j rb s pf nb l) (ho : Only S w w') (h1 : p ∉ S) (h2 : b ∉ S) (h3 : j ∉ S) (h4 : ∀ g, rb = some g → g ∉ S) : Live w' p b j rb s pf nb l :=
  ⟨h.st.only ho h1 h2, h.jn.only ho h3 h4, h.sd, h.up⟩
theorem RowS.only {S : List Nat} {w w' : World} {base : Nat} {v : Value} {l : List Bs} (h : w.ownsRow base 9 1 v l.length (l.map strV)) (ho : Only S w w') (hS : ∀ g, v.ownBlock = some g → g ∉ S) : RowS w' v l := RowS.of_own (own_keep h ho hS)
/-- What an opened store is. -/
def OpenPost (p b pf nb : Nat) (s : St) (l : List Bs) (w : World) (e : Ending) (w' : World) : Prop :=
  ∃ (s' : St) (j : Nat) (rb : Option Nat) (v : Value), e = .returned (.tuple #[.pointer (some ⟨j, 0, none⟩), v, .int .i64 0]) ∧ Live w' p b j rb s' pf nb l ∧ s'.fuse = -1 ∧ (∃ P, P.length = 32 * nb ∧ Turned s s' pf nb P) ∧
    w.heap.size ≤ j ∧ (∀ g, rb = some g → w.heap.size ≤ g) ∧ w'.ownsRow w.heap.size 9 1 v l.length (l.map strV) ∧ (∀ g, v.ownBlock = some g → rb ≠ some g) ∧ Only [p, b] w w'
theorem part_up {w : World} {p b pf nb : Nat} {s : St} (h : StoreIs w p b s) (hh : s.Has pf nb) (hd : s.down = false) (hf : s.fuse = -1) {l : List Bs} {t : Bs} (hsc : IsScan (partB s pf nb) l t) :
    Calls Try.prog 29 #[.pointer (some ⟨p, 0, none⟩), .int .i64 (pf : Int), .int .i64 (nb : Int)] w (OpenPost p b pf nb s l w) := by
  refine (part_of h (pf : Int) (nb : Int)).mono ?_
  rintro e w' ⟨ho, (⟨hB, _⟩ | ⟨a, c, l', t', ha, hc, _, hsc', hs', hr⟩)⟩
  · rw [isB_has hh] at hB; cases hB
  · obtain rfl : pf = a := by omega
    obtain rfl : nb = c := by omega
    obtain ⟨rfl, _⟩ := IsScan.uniq hsc hsc'
    obtain ⟨P, hP, hT, hor, hok⟩ := open_ok h.wf hh hsc
    obtain ⟨hq, hfu⟩ := hok hd hf
    rcases hr with ⟨hn, _⟩ | ⟨_, j, rb, v, hj, hrb, rfl, hjn, hown, hne⟩
    · exact absurd hq hn
    · rcases hor with ⟨_, hsd, hdn⟩ | ⟨h16, _⟩
      · exact ⟨_, j, rb, v, rfl, ⟨hs', hjn, hsd, by rw [hdn]; exact hd⟩, hfu, ⟨P, hP, hT⟩, hj, hrb, hown, hne, ho⟩
      · rw [hq] at h16; cases h16
theorem open_up {w : World} {p b : Nat} {s : St} (h : StoreIs w p b s) (hd : s.down = false) (hf : s.fuse = -1) {l : List Bs} {t : Bs} (hsc : IsScan (partB s 0 s.n) l t) :
    Calls Try.prog 10 #[.pointer (some ⟨p, 0, none⟩)] w (OpenPost p b 0 s.n s l w) := by
  have hh : s.Has 0 s.n := ⟨h.wf.lo, by omega⟩
  refine (open_of h).mono ?_
  rintro e w' ⟨ho, (⟨hB, _⟩ | ⟨a, c, l', t', ha, hc, _, hsc', hs', hr⟩)⟩
  · rw [show (0 : Int) = ((0 : Nat) : Int) from rfl, isB_has hh] at hB; cases hB
  · obtain rfl : a = 0 := by omega
    obtain rfl : c = s.n := by omega
    obtain ⟨rfl, _⟩ := IsScan.uniq hsc hsc'
    obtain ⟨P, hP, hT, hor, hok⟩ := open_ok h.wf hh hsc
    obtain ⟨hq, hfu⟩ := hok hd hf
    rcases hr with ⟨hn, _⟩ | ⟨_, j, rb, v, hj, hrb, rfl, hjn, hown, hne⟩
    · exact absurd hq hn
    · rcases hor with ⟨_, hsd, hdn⟩ | ⟨h16, _⟩
      · exact ⟨_, j, rb, v, rfl, ⟨hs', hjn, hsd, by rw [hdn]; exact hd⟩, hfu, ⟨P, hP, hT⟩, hj, hrb, hown, hne, ho⟩
      · rw [hq] at h16; cases h16
/-- What an append to a live journal that has room does. -/
def GoPost (p b j : Nat) (rb : Option Nat) (s : St) (pf nb : Nat) (l : List Bs) (r : Bs) (w : World) (e : Ending) (w' : World) : Prop :=
  ∃ s' P, P.length = 32 * nb ∧ Turned s s' pf nb P ∧ Only ([p, b] ++ (j :: rb.toList)) w w' ∧
    ((e = .returned (.int .i64 0) ∧ ∃ rb', (∀ g, rb' = some g → rb = some g ∨ w.heap.size ≤ g) ∧ Live w' p b j rb' s' pf nb (l ++ [r]) ∧ (s.fuse = -1 → s'.fuse = -1)) ∨
      (e = .returned (.int .i64 16) ∧ s.fuse ≠ -1 ∧ StoreIs w' p b s' ∧ JnIs w' j rb p pf nb l (frames l).length true ∧ ∃ m t, (m = l ∨ m = l ++ [r]) ∧ IsScan (partB s' pf nb) m t))
theorem app_go {w : World} {p b j pf nb : Nat} {rb : Option Nat} {s : St} {l : List Bs} (h : Live w p b j rb s pf nb l) (d : ByteArray) (h1 : 1 ≤ d.size) (h2 : d.size ≤ 400) (hroom : (frames l).length + (d.size + 8) ≤ 32 * nb) :
    Calls Try.prog 12 #[.pointer (some ⟨j, 0, none⟩), .string d] w (GoPost p b j rb s pf nb l d.data.toList w) := by
  have hn : nb ≤ 256 := by have := h.sd.wf.hi; have := h.sd.has.2; omega
  have hc := frames_count l
  have hsl : d.data.toList.length = d.size := rfl
  refine (append_go h.st h.jn h.sd.has d h1 h2 hroom (by omega)).mono ?_
  rintro e w' ⟨ho, hs, rfl, hr⟩
  obtain ⟨P, hP, hT, hor, hok⟩ := append_ok h.sd h.up (r := d.data.toList) ⟨by omega, by omega⟩ (by omega)
  refine ⟨_, P, hP, hT, ho, ?_⟩
  rcases hor with ⟨hq, hsd, hdn⟩ | ⟨hq, hdn, m, t, hm, hsc⟩
  · rcases hr with ⟨hne, _⟩ | ⟨_, rb', hrb, hjn⟩
    · exact absurd hq hne
    · exact Or.inl ⟨by rw [hq], rb', hrb, ⟨hs, by rw [frames_snoc, List.length_append, frameL_length]; exact hjn, hsd, hdn⟩, fun hf => (hok hf).2⟩
  · rcases hr with ⟨_, hjn⟩ | ⟨h0, _⟩
    · exact Or.inr ⟨by rw [hq], fun hf => absurd ((hok hf).1.symm.trans hq) (by decide), hs, hjn, m, t, hm, by rw [hT.part h.sd.wf h.sd.has hP]; exact hsc⟩
    · rw [hq] at h0; cases h0
/-- An append that has no room. -/
theorem app_full {w : World} {p b j pf nb : Nat} {rb : Option Nat} {s : St} {l : List Bs} (h : Live w p b j rb s pf nb l) (d : ByteArray) (h1 : 1 ≤ d.size) (h2 : d.size ≤ 400) (hroom : 32 * nb < (frames l).length + (d.size + 8)) :
    Calls Try.prog 12 #[.pointer (some ⟨j, 0, none⟩), .string d] w fun e w' => e = .returned (.int .i64 14) ∧ Only [] w w' := by
  have hn : nb ≤ 256 := by have := h.sd.wf.hi; have := h.sd.has.2; omega
  have hf := h.sd.fits
  refine (append_not h.jn hn hf d h1 h2 (Or.inl (by omega))).mono ?_
  rintro e w' ⟨rfl, hb⟩
  exact ⟨by rw [if_pos (by omega)], Only.of_below hb⟩
/-- An append to a journal that is over. -/
theorem app_over {w : World} {p j pf nb fin : Nat} {rb : Option Nat} {l : List Bs} (h : JnIs w j rb p pf nb l fin true) (hn : nb ≤ 256) (hf : fin ≤ 32 * nb) (d : ByteArray) (h1 : 1 ≤ d.size) (h2 : d.size ≤ 400) (hroom : fin + (d.size + 8) ≤ 32 * nb) :
    Calls Try.prog 12 #[.pointer (some ⟨j, 0, none⟩), .string d] w fun e w' => e = .returned (.int .i64 16) ∧ Only [] w w' := by
  refine (append_not h hn hf d h1 h2 (Or.inr rfl)).mono ?_
  rintro e w' ⟨rfl, hb⟩
  exact ⟨by rw [if_neg (by omega)], Only.of_below hb⟩
theorem live_room {w : World} {p b j pf nb : Nat} {rb : Option Nat} {s : St} {l : List Bs} (h : Live w p b j rb s pf nb l) :
    Calls Try.prog 27 #[.pointer (some ⟨j, 0, none⟩)] w fun e w' => e = .returned (.int .i64 (32 * (nb : Int) - ((frames l).length : Int))) ∧ Only [] w w' := by
  have hn : nb ≤ 256 := by have := h.sd.wf.hi; have := h.sd.has.2; omega
  refine (room_of h.jn hn h.sd.fits).mono ?_
  rintro e w' ⟨rfl, k, rfl⟩
  exact ⟨rfl, (Only.refl _ _).drewN k⟩
/-- A look at a whole store. -/
theorem records_up {w : World} {p b : Nat} {s : St} (h : StoreIs w p b s) {l : List Bs} {t : Bs} (hsc : IsScan (partB s 0 s.n) l t) :
    Calls Try.prog 25 #[.pointer (some ⟨p, 0, none⟩)] w fun e w' => ∃ v, e = .returned v ∧ w'.ownsRow w.heap.size 9 1 v l.length (l.map strV) ∧ Only [] w w' := by
  have hh : s.Has 0 s.n := ⟨h.wf.lo, by omega⟩
  refine (records_of h).mono ?_
  rintro e w' ⟨hb, (⟨hB, _⟩ | ⟨a, c, ha, hc, _, v, l', t', rfl, hsc', hown⟩)⟩
  · rw [show (0 : Int) = ((0 : Nat) : Int) from rfl, isB_has hh] at hB; cases hB
  · obtain rfl : a = 0 := by omega
    obtain rfl : c = s.n := by omega
    obtain ⟨rfl, _⟩ := IsScan.uniq hsc hsc'
    exact ⟨v, rfl, hown, Only.of_below hb⟩
theorem new_up (n : Nat) (h1 : 1 ≤ n) (h2 : n ≤ 256) (w : World) :
    Calls Try.prog 8 #[.int .i64 (n : Int)] w fun e w' => e = .returned (.tuple #[.pointer (some ⟨w.heap.size + 1, 0, none⟩), .int .i64 0]) ∧ StoreIs w' (w.heap.size + 1) w.heap.size (St.new n) ∧ Only [] w w' := by
  refine (new_of (n : Int) w).mono ?_
  rintro e w' ⟨hb, (⟨h, _⟩ | ⟨_, rfl, hs⟩)⟩
  · omega
  · exact ⟨rfl, hs, Only.of_below hb⟩
theorem scan_new (n : Nat) (h1 : 1 ≤ n) (h2 : n ≤ 256) : IsScan (partB (St.new n) 0 (St.new n).n) [] (zs (32 * n)) := ⟨by show partB (St.new n) 0 n = _; rw [part_new ⟨h1, by show 0 + n ≤ n; omega⟩]; rfl, by simp, oneL_zs _⟩
theorem write_fuse0 {s : St} (i : Nat) (d : Bs) (hi : i < s.n) (hd : s.down = false) (hf : s.fuse = 0) (hl : d.length = 32) : (s.write (i : Int) d).2 = 16 := by
  have hm : s.may (i : Int) = 0 := by unfold St.may; rw [hd, if_neg (by decide), if_neg (by omega)]
  unfold St.write
  rw [if_neg (by rw [hm]; decide), if_neg (by omega), if_pos hf]
theorem append_fuse0 {s : St} {pf nb fin : Nat} (f : Bs) (hs : s.Wf) (h : s.Has pf nb) (h1 : 1 ≤ f.length) (hfin : fin + f.length ≤ 32 * nb) (hd : s.down = false) (hf : s.fuse = 0) : (appendS s pf nb fin f).2 = 16 := by
  have hpl := partB_length hs h
  have h2 := h.2
  unfold appendS
  have hall := appAll_length (partB s pf nb) fin f (by omega)
  obtain ⟨k, hk⟩ : ∃ k, (fin + f.length + 31) / 32 - fin / 32 = k + 1 := ⟨(fin + f.length + 31) / 32 - fin / 32 - 1, by omega⟩
  have hw : (s.write ((pf + fin / 32 : Nat) : Int) (blk (appAll (partB s pf nb) fin f) (fin / 32))).2 = 16 := write_fuse0 _ _ (by omega) hd hf (blk_length _ nb _ (by omega) (by omega))
  rw [hk, putL, if_neg (by simp), if_pos (by rw [hw]; decide)]
  exact hw
/-- An append while no fuse burns. -/
def SurePost (p b j : Nat) (rb : Option Nat) (s : St) (pf nb : Nat) (l : List Bs) (r : Bs) (w : World) (e : Ending) (w' : World) : Prop :=
  e = .returned (.int .i64 0) ∧ ∃ s' P rb', P.length = 32 * nb ∧ Turned s s' pf nb P ∧ Only ([p, b] ++ (j :: rb.toList)) w w' ∧ (∀ g, rb' = some g → rb = some g ∨ w.heap.size ≤ g) ∧ Live w' p b j rb' s' pf nb (l ++ [r]) ∧ s'.fuse = -1
theorem app_sure {w : World} {p b j pf nb : Nat} {rb : Option Nat} {s : St} {l : List Bs} (h : Live w p b j rb s pf nb l) (hf : s.fuse = -1) (d : ByteArray) (h1 : 1 ≤ d.size) (h2 : d.size ≤ 400) (hroom : (frames l).length + (d.size + 8) ≤ 32 * nb) :
    Calls Try.prog 12 #[.pointer (some ⟨j, 0, none⟩), .string d] w (SurePost p b j rb s pf nb l d.data.toList w) := by
  refine (app_go h d h1 h2 hroom).mono ?_
  rintro e w' ⟨s', P, hP, hT, ho, (⟨rfl, rb', hrb, hl, hfu⟩ | ⟨_, hne, _⟩)⟩
  · exact ⟨rfl, s', P, rb', hP, hT, ho, hrb, hl, hfu hf⟩
  · exact absurd hf hne
/-- An append whose first write is cut off. -/
def TornPost (p b j : Nat) (rb : Option Nat) (s : St) (pf nb : Nat) (l : List Bs) (r : Bs) (w : World) (e : Ending) (w' : World) : Prop :=
  e = .returned (.int .i64 16) ∧ ∃ s' P m t, P.length = 32 * nb ∧ Turned s s' pf nb P ∧ Only ([p, b] ++ (j :: rb.toList)) w w' ∧ StoreIs w' p b s' ∧ JnIs w' j rb p pf nb l (frames l).length true ∧ (m = l ∨ m = l ++ [r]) ∧ IsScan (partB s' pf nb) m t
theorem app_torn {w : World} {p b j pf nb : Nat} {rb : Option Nat} {s : St} {l : List Bs} (h : Live w p b j rb s pf nb l) (hf : s.fuse = 0) (d : ByteArray) (h1 : 1 ≤ d.size) (h2 : d.size ≤ 400) (hroom : (frames l).length + (d.size + 8) ≤ 32 * nb) :
    Calls Try.prog 12 #[.pointer (some ⟨j, 0, none⟩), .string d] w (TornPost p b j rb s pf nb l d.data.toList w) := by
  have hn : nb ≤ 256 := by have := h.sd.wf.hi; have := h.sd.has.2; omega
  have hc := frames_count l
  have hsl : d.data.toList.length = d.size := rfl
  have hfl := frameL_length d.data.toList
  have h16 := append_fuse0 (fin := (frames l).length) (frameL d.data.toList) h.sd.wf h.sd.has (by omega) (by omega) h.up hf
  refine (append_go h.st h.jn h.sd.has d h1 h2 hroom (by omega)).mono ?_
  rintro e w' ⟨ho, hs, rfl, hr⟩
  obtain ⟨P, hP, hT, hor, hok⟩ := append_ok h.sd h.up (r := d.data.toList) ⟨by omega, by omega⟩ (by omega)
  rcases hor with ⟨hq, _⟩ | ⟨hq, hdn, m, t, hm, hsc⟩
  · rw [h16] at hq; cases hq
  · rcases hr with ⟨_, hjn⟩ | ⟨h0, _⟩
    · exact ⟨by rw [hq], _, P, m, t, hP, hT, ho, hs, hjn, hm, by rw [hT.part h.sd.wf h.sd.has hP]; exact hsc⟩
    · rw [hq] at h0; cases h0
end Go.Proofs.Ytngcdkbnljoodaa
