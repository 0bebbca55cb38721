/- Same and block: what the journal's laws use of the references. No conditions beyond those typed. A store with a journal: Open, Append, Room, Records in one predicate. No conditions beyond those typed. awake, the journal's law's: it answers true. No conditions beyond those typed. JournalSure's walk. No conditions beyond those typed. JournalAgain's walk: its parts. No conditions beyond those typed. JournalParts' walk: its parts. No conditions beyond those typed. Journals of three parts of a store, side by side. No conditions beyond those typed. A slice of strings among a law's arguments, as a row of bytes; a byte's bounds. No conditions beyond those typed. -/
import Derived.Test.YtngcdkbnljoodaaDoorJouV
import Derived.SliceStrings
import Derived.SizedLaws
namespace Go.Proofs.YtngcdkbnljoodaaDoor
set_option linter.unusedVariables false
set_option linter.unusedSimpArgs false
open Go.RowKit Go.Proofs.YtngcdkbnljoodaaDoorW.PrintWords

/-- A row of strings, to be read. -/
def RowS (w : World) (v : Value) (l : List Bs) : Prop := ∃ a cap, v = .slice a l.length cap ∧ ∀ k x, l[k]? = some x → ∃ p, a = some p ∧ w.cell? (p.add k) = some (strV x)
theorem addr_add0 (g k : Nat) : (⟨g, 0, none⟩ : Addr).add k = ⟨g, k, none⟩ := by unfold Addr.add; cases k <;> simp
theorem RowS.of_own {w : World} {base : Nat} {v : Value} {l : List Bs} (h : w.ownsRow base 9 1 v l.length (l.map strV)) : RowS w v l := by
  rcases own_cells h with ⟨rfl, rfl⟩ | ⟨g, cap, rfl, hg, hc⟩
  · exact ⟨none, 0, rfl, fun k x h => by simp at h⟩
  · exact ⟨_, cap, rfl, fun k x h => ⟨_, rfl, by rw [addr_add0]; exact hc k x h⟩⟩
theorem same_bytes (a b : Bs) : ((mkS a).toList == (mkS b).toList) = decide (a = b) := by
  rw [ByteArray.toList_eq, ByteArray.toList_eq, list_mkS, list_mkS]
  rw [Bool.eq_iff_iff]
  simp
set_option maxHeartbeats 2000000 in
theorem Same_of {w : World} {v u : Value} {l m : List Bs} (hv : RowS w v l) (hu : RowS w u m) (hl : l.length ≤ 9000000000000000000) :
    Calls Tryd.prog 13 #[v, u] w fun e w' => e = .returned (.bool (decide (l = m))) ∧ ∃ k, w' = w.drewN k := by
  obtain ⟨a, ca, rfl, ha⟩ := hv
  obtain ⟨b, cb, rfl, hb⟩ := hu
  by_cases hne : l.length = m.length
  · obtain ⟨L, hL⟩ : ∃ L, L = l.length := ⟨_, rfl⟩
    have hM : m.length = L := by omega
    rw [← hL] at hl ⊢
    rw [hM]
    have HL := Lib.hid hL
    have HM := Lib.hid hM
    have HA := Lib.hid ha
    have HB := Lib.hid hb
    clear hne ha hb hL hM
    go_enter Tryd.func13, Tryd.ntmps13
    go_wp2
    go_loopw [5] (fun i wr => ∃ k : Nat, k ≤ L ∧ i = .int .i64 (k : Int) ∧ Hid (∀ j, j < k → l[j]? = m[j]?) ∧ ∃ d, wr = w.drewN d) (fun i _ => L - (intOf i).toNat)
    case atStart => exact ⟨0, Nat.zero_le _, rfl, Lib.hid (fun j hj => absurd hj (Nat.not_lt_zero j)), 0, rfl⟩
    case round =>
      obtain ⟨k, hk, rfl, HS, d, rfl⟩ := hrel
      by_cases hkL : k < L
      · obtain ⟨x, hx⟩ : ∃ x, l[k]? = some x := ⟨_, List.getElem?_eq_getElem (by have := HL.out; omega)⟩
        obtain ⟨y, hy⟩ : ∃ y, m[k]? = some y := ⟨_, List.getElem?_eq_getElem (by have := HM.out; omega)⟩
        obtain ⟨p, rfl, hcx⟩ := HA.out k x hx
        obtain ⟨q, rfl, hcy⟩ := HB.out k y hy
        have hs := same_bytes x y
        have HX := Lib.hid hx
        have HY := Lib.hid hy
        have hc1 : ((k : Int) < (L : Int)) := by omega
        have hc0 : (0 : Int) ≤ (k : Int) := by omega
        have hwr : IntKind.i64.wrap ((k : Int) + 1) = (k : Int) + 1 := IntWalk.i64_in _ (by omega)
        unfold strV at hcx hcy
        by_cases hxy : x = y
        · rw [decide_eq_true hxy] at hs
          have HXY := Lib.hid hxy
          clear hx hy hxy
          go_wp2
          go_quiet (fail)
          go_wp2
          go_roundw
          case rel =>
            refine ⟨k + 1, by omega, rfl, Lib.hid (fun j hj => ?_), _, rfl⟩
            rcases Nat.lt_succ_iff_lt_or_eq.1 hj with h | h
            · exact HS.out j h
            · rw [h, HX.out, HY.out, HXY.out]
          case measure => simp [intOf]; omega
        · rw [decide_eq_false hxy] at hs
          have hlm : l ≠ m := fun e => hxy (by rw [e, hy] at hx; exact (Option.some.inj hx).symm)
          have HLM := Lib.hid hlm
          clear hx hy hxy hlm
          go_wp2
          go_quiet (fail)
          go_wp2
          go_ret
          exact ⟨by rw [decide_eq_false HLM.out]; rfl, _, World.drewN_drewN _ _ _⟩
      · have hkk : k = L := by omega
        subst hkk
        have hlm : l = m := by
          apply List.ext_getElem?
          intro j
          rcases Nat.lt_or_ge j k with h | h
          · exact HS.out j h
          · rw [List.getElem?_eq_none (by have := HL.out; omega), List.getElem?_eq_none (by have := HM.out; omega)]
        have HLM := Lib.hid hlm
        clear hlm hkL
        go_wp2
        go_ret
        exact ⟨by rw [decide_eq_true HLM.out]; rfl, _, rfl⟩
  · have hb1 : ((l.length : Int) != (m.length : Int)) = true := by rw [bne_iff_ne]; omega
    have hb2 : (l.length == m.length) = false := by rw [beq_eq_false_iff_ne]; exact hne
    have hlm : l ≠ m := fun e => hne (by rw [e])
    have HLM := Lib.hid hlm
    clear hne ha hb hlm
    go_enter Tryd.func13, Tryd.ntmps13
    go_wp2
    go_ret
    exact ⟨by rw [decide_eq_false HLM.out]; rfl, 0, rfl⟩
end Go.Proofs.YtngcdkbnljoodaaDoor

namespace Go.Proofs.YtngcdkbnljoodaaDoor
set_option linter.unusedVariables false
set_option linter.unusedSimpArgs false
open Go.RowKit Go.Proofs.YtngcdkbnljoodaaDoorW.PrintWords

/-- A store that is up, and a journal of a part of it. -/
structure Live (w : World) (p b j : Nat) (rb : Option Nat) (s : St) (pf nb : Nat) (l : List Bs) : Prop where
  st : StoreIs w p b s
  jn : JnIs w j rb p pf nb l (frames l).length false
  sd : Sound s pf nb l
  up : s.down = false
theorem Live.only {S : List Nat} {w w' : World} {p b j pf nb : Nat} {rb : Option Nat} {s : St} {l : List Bs} (h : Live w p b j rb s pf nb l) (ho : Only S w w') (h1 : p ∉ S) (h2 : b ∉ S) (h3 : j ∉ S) (h4 : ∀ g, rb = some g → g ∉ S) : Live w' p b j rb s pf nb l :=
  ⟨h.st.only ho h1 h2, h.jn.only ho h3 h4, h.sd, h.up⟩
theorem RowS.only {S : List Nat} {w w' : World} {base : Nat} {v : Value} {l : List Bs} (h : w.ownsRow base 9 1 v l.length (l.map strV)) (ho : Only S w w') (hS : ∀ g, v.ownBlock = some g → g ∉ S) : RowS w' v l := RowS.of_own (own_keep h ho hS)
/-- What an opened store is. -/
def OpenPost (p b pf nb : Nat) (s : St) (l : List Bs) (w : World) (e : Ending) (w' : World) : Prop :=
  ∃ (s' : St) (j : Nat) (rb : Option Nat) (v : Value), e = .returned (.tuple #[.pointer (some ⟨j, 0, none⟩), v, .int .i64 0]) ∧ Live w' p b j rb s' pf nb l ∧ s'.fuse = -1 ∧ (∃ P, P.length = 32 * nb ∧ Turned s s' pf nb P) ∧
    w.heap.size ≤ j ∧ (∀ g, rb = some g → w.heap.size ≤ g) ∧ w'.ownsRow w.heap.size 9 1 v l.length (l.map strV) ∧ (∀ g, v.ownBlock = some g → rb ≠ some g) ∧ Only [p, b] w w'
theorem part_up {w : World} {p b pf nb : Nat} {s : St} (h : StoreIs w p b s) (hh : s.Has pf nb) (hd : s.down = false) (hf : s.fuse = -1) {l : List Bs} {t : Bs} (hsc : IsScan (partB s pf nb) l t) :
    Calls Tryd.prog 23 #[.pointer (some ⟨p, 0, none⟩), .int .i64 (pf : Int), .int .i64 (nb : Int)] w (OpenPost p b pf nb s l w) := by
  refine (part_of h (pf : Int) (nb : Int)).mono ?_
  rintro e w' ⟨ho, (⟨hB, _⟩ | ⟨a, c, l', t', ha, hc, _, hsc', hs', hr⟩)⟩
  · rw [isB_has hh] at hB; cases hB
  · obtain rfl : pf = a := by omega
    obtain rfl : nb = c := by omega
    obtain ⟨rfl, _⟩ := IsScan.uniq hsc hsc'
    obtain ⟨P, hP, hT, hor, hok⟩ := open_ok h.wf hh hsc
    obtain ⟨hq, hfu⟩ := hok hd hf
    rcases hr with ⟨hn, _⟩ | ⟨_, j, rb, v, hj, hrb, rfl, hjn, hown, hne⟩
    · exact absurd hq hn
    · rcases hor with ⟨_, hsd, hdn⟩ | ⟨h16, _⟩
      · exact ⟨_, j, rb, v, rfl, ⟨hs', hjn, hsd, by rw [hdn]; exact hd⟩, hfu, ⟨P, hP, hT⟩, hj, hrb, hown, hne, ho⟩
      · rw [hq] at h16; cases h16
/-- What an append to a live journal that has room does. -/
def GoPost (p b j : Nat) (rb : Option Nat) (s : St) (pf nb : Nat) (l : List Bs) (r : Bs) (w : World) (e : Ending) (w' : World) : Prop :=
  ∃ s' P, P.length = 32 * nb ∧ Turned s s' pf nb P ∧ Only ([p, b] ++ (j :: rb.toList)) w w' ∧
    ((e = .returned (.int .i64 0) ∧ ∃ rb', (∀ g, rb' = some g → rb = some g ∨ w.heap.size ≤ g) ∧ Live w' p b j rb' s' pf nb (l ++ [r]) ∧ (s.fuse = -1 → s'.fuse = -1)) ∨
      (e = .returned (.int .i64 16) ∧ s.fuse ≠ -1 ∧ StoreIs w' p b s' ∧ JnIs w' j rb p pf nb l (frames l).length true ∧ ∃ m t, (m = l ∨ m = l ++ [r]) ∧ IsScan (partB s' pf nb) m t))
theorem app_go {w : World} {p b j pf nb : Nat} {rb : Option Nat} {s : St} {l : List Bs} (h : Live w p b j rb s pf nb l) (d : ByteArray) (h1 : 1 ≤ d.size) (h2 : d.size ≤ 400) (hroom : (frames l).length + (d.size + 8) ≤ 32 * nb) :
    Calls Tryd.prog 24 #[.pointer (some ⟨j, 0, none⟩), .string d] w (GoPost p b j rb s pf nb l d.data.toList w) := by
  have hn : nb ≤ 256 := by have := h.sd.wf.hi; have := h.sd.has.2; omega
  have hc := frames_count l
  have hsl : d.data.toList.length = d.size := rfl
  refine (append_go h.st h.jn h.sd.has d h1 h2 hroom (by omega)).mono ?_
  rintro e w' ⟨ho, hs, rfl, hr⟩
  obtain ⟨P, hP, hT, hor, hok⟩ := append_ok h.sd h.up (r := d.data.toList) ⟨by omega, by omega⟩ (by omega)
  refine ⟨_, P, hP, hT, ho, ?_⟩
  rcases hor with ⟨hq, hsd, hdn⟩ | ⟨hq, hdn, m, t, hm, hsc⟩
  · rcases hr with ⟨hne, _⟩ | ⟨_, rb', hrb, hjn⟩
    · exact absurd hq hne
    · exact Or.inl ⟨by rw [hq], rb', hrb, ⟨hs, by rw [frames_snoc, List.length_append, frameL_length]; exact hjn, hsd, hdn⟩, fun hf => (hok hf).2⟩
  · rcases hr with ⟨_, hjn⟩ | ⟨h0, _⟩
    · exact Or.inr ⟨by rw [hq], fun hf => absurd ((hok hf).1.symm.trans hq) (by decide), hs, hjn, m, t, hm, by rw [hT.part h.sd.wf h.sd.has hP]; exact hsc⟩
    · rw [hq] at h0; cases h0
/-- An append that has no room. -/
theorem app_full {w : World} {p b j pf nb : Nat} {rb : Option Nat} {s : St} {l : List Bs} (h : Live w p b j rb s pf nb l) (d : ByteArray) (h1 : 1 ≤ d.size) (h2 : d.size ≤ 400) (hroom : 32 * nb < (frames l).length + (d.size + 8)) :
    Calls Tryd.prog 24 #[.pointer (some ⟨j, 0, none⟩), .string d] w fun e w' => e = .returned (.int .i64 14) ∧ Only [] w w' := by
  have hn : nb ≤ 256 := by have := h.sd.wf.hi; have := h.sd.has.2; omega
  have hf := h.sd.fits
  refine (append_not h.jn hn hf d h1 h2 (Or.inl (by omega))).mono ?_
  rintro e w' ⟨rfl, hb⟩
  exact ⟨by rw [if_pos (by omega)], Only.of_below hb⟩
/-- An append to a journal that is over. -/
theorem app_over {w : World} {p j pf nb fin : Nat} {rb : Option Nat} {l : List Bs} (h : JnIs w j rb p pf nb l fin true) (hn : nb ≤ 256) (hf : fin ≤ 32 * nb) (d : ByteArray) (h1 : 1 ≤ d.size) (h2 : d.size ≤ 400) (hroom : fin + (d.size + 8) ≤ 32 * nb) :
    Calls Tryd.prog 24 #[.pointer (some ⟨j, 0, none⟩), .string d] w fun e w' => e = .returned (.int .i64 16) ∧ Only [] w w' := by
  refine (append_not h hn hf d h1 h2 (Or.inr rfl)).mono ?_
  rintro e w' ⟨rfl, hb⟩
  exact ⟨by rw [if_neg (by omega)], Only.of_below hb⟩
theorem live_room {w : World} {p b j pf nb : Nat} {rb : Option Nat} {s : St} {l : List Bs} (h : Live w p b j rb s pf nb l) :
    Calls Tryd.prog 29 #[.pointer (some ⟨j, 0, none⟩)] w fun e w' => e = .returned (.int .i64 (32 * (nb : Int) - ((frames l).length : Int))) ∧ Only [] w w' := by
  have hn : nb ≤ 256 := by have := h.sd.wf.hi; have := h.sd.has.2; omega
  refine (room_of h.jn hn h.sd.fits).mono ?_
  rintro e w' ⟨rfl, k, rfl⟩
  exact ⟨rfl, (Only.refl _ _).drewN k⟩
theorem new_up (n : Nat) (h1 : 1 ≤ n) (h2 : n ≤ 256) (w : World) :
    Calls Tryd.prog 6 #[.int .i64 (n : Int)] w fun e w' => e = .returned (.tuple #[.pointer (some ⟨w.heap.size + 1, 0, none⟩), .int .i64 0]) ∧ StoreIs w' (w.heap.size + 1) w.heap.size (St.new n) ∧ Only [] w w' := by
  refine (new_of (n : Int) w).mono ?_
  rintro e w' ⟨hb, (⟨h, _⟩ | ⟨_, rfl, hs⟩)⟩
  · omega
  · exact ⟨rfl, hs, Only.of_below hb⟩
theorem scan_new (n : Nat) (h1 : 1 ≤ n) (h2 : n ≤ 256) : IsScan (partB (St.new n) 0 (St.new n).n) [] (zs (32 * n)) := ⟨by show partB (St.new n) 0 n = _; rw [part_new ⟨h1, by show 0 + n ≤ n; omega⟩]; rfl, by simp, oneL_zs _⟩
theorem write_fuse0 {s : St} (i : Nat) (d : Bs) (hi : i < s.n) (hd : s.down = false) (hf : s.fuse = 0) (hl : d.length = 32) : (s.write (i : Int) d).2 = 16 := by
  have hm : s.may (i : Int) = 0 := by unfold St.may; rw [hd, if_neg (by decide), if_neg (by omega)]
  unfold St.write
  rw [if_neg (by rw [hm]; decide), if_neg (by omega), if_pos hf]
theorem append_fuse0 {s : St} {pf nb fin : Nat} (f : Bs) (hs : s.Wf) (h : s.Has pf nb) (h1 : 1 ≤ f.length) (hfin : fin + f.length ≤ 32 * nb) (hd : s.down = false) (hf : s.fuse = 0) : (appendS s pf nb fin f).2 = 16 := by
  have hpl := partB_length hs h
  have h2 := h.2
  unfold appendS
  have hall := appAll_length (partB s pf nb) fin f (by omega)
  obtain ⟨k, hk⟩ : ∃ k, (fin + f.length + 31) / 32 - fin / 32 = k + 1 := ⟨(fin + f.length + 31) / 32 - fin / 32 - 1, by omega⟩
  have hw : (s.write ((pf + fin / 32 : Nat) : Int) (blk (appAll (partB s pf nb) fin f) (fin / 32))).2 = 16 := write_fuse0 _ _ (by omega) hd hf (blk_length _ nb _ (by omega) (by omega))
  rw [hk, putL, if_neg (by simp), if_pos (by rw [hw]; decide)]
  exact hw
/-- An append while no fuse burns. -/
def SurePost (p b j : Nat) (rb : Option Nat) (s : St) (pf nb : Nat) (l : List Bs) (r : Bs) (w : World) (e : Ending) (w' : World) : Prop :=
  e = .returned (.int .i64 0) ∧ ∃ s' P rb', P.length = 32 * nb ∧ Turned s s' pf nb P ∧ Only ([p, b] ++ (j :: rb.toList)) w w' ∧ (∀ g, rb' = some g → rb = some g ∨ w.heap.size ≤ g) ∧ Live w' p b j rb' s' pf nb (l ++ [r]) ∧ s'.fuse = -1
theorem app_sure {w : World} {p b j pf nb : Nat} {rb : Option Nat} {s : St} {l : List Bs} (h : Live w p b j rb s pf nb l) (hf : s.fuse = -1) (d : ByteArray) (h1 : 1 ≤ d.size) (h2 : d.size ≤ 400) (hroom : (frames l).length + (d.size + 8) ≤ 32 * nb) :
    Calls Tryd.prog 24 #[.pointer (some ⟨j, 0, none⟩), .string d] w (SurePost p b j rb s pf nb l d.data.toList w) := by
  refine (app_go h d h1 h2 hroom).mono ?_
  rintro e w' ⟨s', P, hP, hT, ho, (⟨rfl, rb', hrb, hl, hfu⟩ | ⟨_, hne, _⟩)⟩
  · exact ⟨rfl, s', P, rb', hP, hT, ho, hrb, hl, hfu hf⟩
  · exact absurd hf hne
/-- An append whose first write is cut off. -/
def TornPost (p b j : Nat) (rb : Option Nat) (s : St) (pf nb : Nat) (l : List Bs) (r : Bs) (w : World) (e : Ending) (w' : World) : Prop :=
  e = .returned (.int .i64 16) ∧ ∃ s' P m t, P.length = 32 * nb ∧ Turned s s' pf nb P ∧ Only ([p, b] ++ (j :: rb.toList)) w w' ∧ StoreIs w' p b s' ∧ JnIs w' j rb p pf nb l (frames l).length true ∧ (m = l ∨ m = l ++ [r]) ∧ IsScan (partB s' pf nb) m t
theorem app_torn {w : World} {p b j pf nb : Nat} {rb : Option Nat} {s : St} {l : List Bs} (h : Live w p b j rb s pf nb l) (hf : s.fuse = 0) (d : ByteArray) (h1 : 1 ≤ d.size) (h2 : d.size ≤ 400) (hroom : (frames l).length + (d.size + 8) ≤ 32 * nb) :
    Calls Tryd.prog 24 #[.pointer (some ⟨j, 0, none⟩), .string d] w (TornPost p b j rb s pf nb l d.data.toList w) := by
  have hn : nb ≤ 256 := by have := h.sd.wf.hi; have := h.sd.has.2; omega
  have hc := frames_count l
  have hsl : d.data.toList.length = d.size := rfl
  have hfl := frameL_length d.data.toList
  have h16 := append_fuse0 (fin := (frames l).length) (frameL d.data.toList) h.sd.wf h.sd.has (by omega) (by omega) h.up hf
  refine (append_go h.st h.jn h.sd.has d h1 h2 hroom (by omega)).mono ?_
  rintro e w' ⟨ho, hs, rfl, hr⟩
  obtain ⟨P, hP, hT, hor, hok⟩ := append_ok h.sd h.up (r := d.data.toList) ⟨by omega, by omega⟩ (by omega)
  rcases hor with ⟨hq, _⟩ | ⟨hq, hdn, m, t, hm, hsc⟩
  · rw [h16] at hq; cases hq
  · rcases hr with ⟨_, hjn⟩ | ⟨h0, _⟩
    · exact ⟨by rw [hq], _, P, m, t, hP, hT, ho, hs, hjn, hm, by rw [hT.part h.sd.wf h.sd.has hP]; exact hsc⟩
    · rw [hq] at h0; cases h0
end Go.Proofs.YtngcdkbnljoodaaDoor

namespace Go.Proofs.YtngcdkbnljoodaaDoor
set_option linter.unusedVariables false
set_option linter.unusedSimpArgs false
open Go.RowKit Go.Proofs.YtngcdkbnljoodaaDoorW.PrintWords

theorem aw_len1 : (frames ([] ++ [[97]])).length = 9 := by simp [frames_cons, frames_nil, frameL_length]
theorem aw_len2 : (frames ([] ++ [[97]] ++ [[98, 98]])).length = 19 := by simp [frames_cons, frames_nil, frameL_length]
theorem aw_make (w : World) : (Instr.makeSlice 90 (.int .i64 110) (.int .i64 110)).run Tryd.prog w = .ok (.slice (some ⟨w.heap.size, 0, none⟩) 110 110) (w.alloc (.cells (u8v (zs 110)).toArray 5)) := by
  have hr := run_make_row' (P := Tryd.prog) 90 5 (.int .u8 0) 1 Tryd.underlying90 u8_info rfl .i64 .i64 110 (by omega) (by omega) w
  rw [madeCells_same _ (.int .u8 0) _ (by decide) one_zero] at hr
  rw [u8v_zs]
  exact hr
theorem Same_eq {w : World} {v u : Value} {l : List Bs} (hv : RowS w v l) (hu : RowS w u l) (hl : l.length ≤ 1000000) :
    Calls Tryd.prog 13 #[v, u] w fun e w' => e = .returned (.bool true) ∧ Only [] w w' := by
  refine (Same_of hv hu (by omega)).mono ?_
  rintro e w' ⟨rfl, d, rfl⟩
  exact ⟨by rw [decide_eq_true rfl], (Only.refl _ _).drewN d⟩
theorem only_own {w a c : World} {p b j : Nat} {rb : Option Nat} (h : Only [] w a) (k : Only ([p, b] ++ (j :: rb.toList)) a c) (h1 : w.heap.size ≤ p ∧ w.heap.size ≤ b) (h3 : w.heap.size ≤ j) (h4 : ∀ g, rb = some g → w.heap.size ≤ g) : Only [] w c :=
  h.trans k (by
    intro x hx
    simp at hx
    rcases hx with rfl | rfl | rfl | h
    · exact Or.inr h1.1
    · exact Or.inr h1.2
    · exact Or.inr h3
    · exact Or.inr (h4 x h))
theorem rb_ge {w a : World} {rb rb' : Option Nat} (ho : Only [] w a) (h : ∀ g, rb = some g → w.heap.size ≤ g) (h' : ∀ g, rb' = some g → rb = some g ∨ a.heap.size ≤ g) : ∀ g, rb' = some g → w.heap.size ≤ g := fun g hg => by
  rcases h' g hg with h2 | h2
  · exact h g h2
  · have := ho.size; omega
/-- A journal's blocks are none of the store's. -/
theorem JnIs.away {w : World} {j p b pf nb fin q : Nat} {rb : Option Nat} {l : List Bs} {o : Bool} {s : St} (h : JnIs w j rb q pf nb l fin o) (hs : StoreIs w p b s) :
    (j ≠ p ∧ j ≠ b) ∧ (∀ g, rb = some g → g ≠ p ∧ g ≠ b) ∧ j < w.heap.size ∧ ∀ g, rb = some g → g < w.heap.size := by
  obtain ⟨v, hv, hown, hr⟩ := h.ex
  obtain ⟨_, _, ⟨wr, z3⟩, z4⟩ := hs
  refine ⟨⟨blk_ne hv z3 (by decide), blk_ne hv z4 (by decide)⟩, fun g hg => ?_, blk_lt hv, fun g hg => (hown.lt g (hr.trans hg)).2⟩
  obtain ⟨cells, hc⟩ := own_typed hown g (hr.trans hg)
  exact ⟨(fun e => by rw [e, z3] at hc; cases hc), (fun e => by rw [e, z4] at hc; cases hc)⟩
theorem own_away {w : World} {p b base n j q pf nb fin : Nat} {rb : Option Nat} {ls : List Bs} {o : Bool} {v : Value} {xs : List Value} {s : St} (h : w.ownsRow base 9 1 v n xs) (hs : StoreIs w p b s) (hj : JnIs w j rb q pf nb ls fin o) : ∀ g, v.ownBlock = some g → g ≠ p ∧ g ≠ b ∧ g ≠ j := fun g hg => by
  obtain ⟨_, _, ⟨wr, z3⟩, z4⟩ := hs
  obtain ⟨v, hv, _⟩ := hj.ex
  obtain ⟨cells, hc⟩ := own_typed h g hg
  exact ⟨(fun e => by rw [e, z3] at hc; cases hc), (fun e => by rw [e, z4] at hc; cases hc), (fun e => by rw [e, hv] at hc; cases hc)⟩
theorem aw_pair (w : World) (t : TypeId) : RowS (w.alloc (.cells #[.string { data := #[97] }, .string { data := #[98, 98] }] t)) (.slice (some ⟨w.heap.size, 0, none⟩) 2 2) ([] ++ [[97]] ++ [[98, 98]]) :=
  ⟨_, 2, rfl, fun k x h => ⟨_, rfl, by
    match k, h with
    | 0, h => simp at h; subst h; simp [Addr.add]; rfl
    | 1, h => simp at h; subst h; simp [Addr.add]; rfl⟩⟩
end Go.Proofs.YtngcdkbnljoodaaDoor

namespace Go.Proofs.YtngcdkbnljoodaaDoor
set_option linter.unusedVariables false
set_option linter.unusedSimpArgs false
open Go.RowKit Go.Proofs.YtngcdkbnljoodaaDoorW.PrintWords

def sumL (l : List Bs) : Nat := l.foldr (fun x n => x.length + n) 0
theorem sumL_snoc (l : List Bs) (x : Bs) : sumL (l ++ [x]) = sumL l + x.length := by
  induction l with
  | nil => simp [sumL]
  | cons a l ih => simp [sumL] at ih ⊢; omega
theorem sumL_take (l : List Bs) (k : Nat) (x : Bs) (h : l[k]? = some x) : sumL (l.take (k + 1)) = sumL (l.take k) + x.length := by
  rw [List.take_add_one, h]
  exact sumL_snoc _ _
theorem sumL_le (l : List Bs) (B : Nat) (h : ∀ x ∈ l, x.length ≤ B) : sumL l ≤ l.length * B := by
  induction l with
  | nil => exact Nat.zero_le _
  | cons a l ih =>
    have h1 := h a (by simp)
    have h2 := ih (fun x hx => h x (by simp [hx]))
    show a.length + sumL l ≤ (l.length + 1) * B
    rw [Nat.add_mul]; omega
theorem row_keep {w w' : World} {a : Option Addr} {l : List Bs} (hc : ∀ k x, l[k]? = some x → ∃ p, a = some p ∧ w.cell? (p.add k) = some (strV x)) (ho : Only [] w w') : ∀ k x, l[k]? = some x → ∃ p, a = some p ∧ w'.cell? (p.add k) = some (strV x) := fun k x hx => by
  obtain ⟨p, hp, hq⟩ := hc k x hx
  refine ⟨p, hp, ?_⟩
  have hlt : (p.add k).block < w.heap.size := by
    rcases Nat.lt_or_ge (p.add k).block w.heap.size with h | h
    · exact h
    · unfold World.cell? at hq
      rw [Array.getElem?_eq_none h] at hq
      simp at hq
  exact (World.cell?_of_block (ho.block _ hlt (by simp))).trans hq
theorem RowS.keep {w w' : World} {v : Value} {l : List Bs} (h : RowS w v l) (ho : Only [] w w') : RowS w' v l := by
  obtain ⟨a, c, rfl, hc⟩ := h
  refine ⟨a, c, rfl, fun k x hx => ?_⟩
  obtain ⟨p, hp, hq⟩ := hc k x hx
  refine ⟨p, hp, ?_⟩
  have hlt : (p.add k).block < w.heap.size := by
    rcases Nat.lt_or_ge (p.add k).block w.heap.size with h | h
    · exact h
    · unfold World.cell? at hq
      rw [Array.getElem?_eq_none h] at hq
      simp at hq
  exact (World.cell?_of_block (ho.block _ hlt (by simp))).trans hq
theorem sumL_take_le (l : List Bs) (k : Nat) : sumL (l.take k) ≤ sumL l := by
  induction l generalizing k with
  | nil => simp
  | cons a l ih =>
    cases k with
    | zero => exact Nat.zero_le _
    | succ k => exact Nat.add_le_add_left (ih k) _
/-- The store, the journal and the row of what is sure, within the loop. -/
def SureIn (w0 wr : World) (p b j nb : Nat) (u : Value) (ls : List Bs) : Prop :=
  ∃ rb s, Live wr p b j rb s 0 nb ls ∧ s.n = nb ∧ wr.ownsRow w0.heap.size 9 1 u ls.length (ls.map strV) ∧ (∀ g, u.ownBlock = some g → rb ≠ some g) ∧ (∀ g, rb = some g → w0.heap.size ≤ g) ∧ Only [] w0 wr ∧ u ≠ .slice none 0 0
theorem SureIn.nz {w0 w : World} {p b j nb : Nat} {u : Value} {ls : List Bs} (h : SureIn w0 w p b j nb u ls) : u ≠ .slice none 0 0 := by
  obtain ⟨_, _, _, _, _, _, _, _, hz⟩ := h
  exact hz
theorem SureIn.only {w0 w w' : World} {p b j nb : Nat} {u : Value} {ls : List Bs} (h : SureIn w0 w p b j nb u ls) (ho : Only [] w w') : SureIn w0 w' p b j nb u ls := by
  obtain ⟨rb, s, hl, hn, hu, hne, hrb, ho', hz⟩ := h
  exact ⟨rb, s, hl.only ho (by simp) (by simp) (by simp) (by simp), hn, own_keep hu ho (by simp), hne, hrb, ho'.tr ho, hz⟩
/-- One append within the loop: what is sure stays, or grows, or the power goes. -/
def SureStep (w0 : World) (p b j nb : Nat) (u : Value) (ls : List Bs) (y : Bs) (e : Ending) (w' : World) : Prop :=
  (∃ c : Int, e = .returned (.int .i64 c) ∧ c ≠ 0 ∧ c ≠ 16 ∧ SureIn w0 w' p b j nb u ls) ∨
    (e = .returned (.int .i64 0) ∧ ∃ rb s, Live w' p b j rb s 0 nb (ls ++ [y]) ∧ s.n = nb ∧ w'.ownsRow w0.heap.size 9 1 u ls.length (ls.map strV) ∧ (∀ g, u.ownBlock = some g → rb ≠ some g) ∧ (∀ g, rb = some g → w0.heap.size ≤ g) ∧ Only [] w0 w') ∨
    (e = .returned (.int .i64 16) ∧ y ≠ [] ∧ ∃ s m t, StoreIs w' p b s ∧ s.n = nb ∧ IsScan (partB s 0 nb) m t ∧ (m = ls ∨ m = ls ++ [y]) ∧ w'.ownsRow w0.heap.size 9 1 u ls.length (ls.map strV) ∧ Only [] w0 w')
theorem sure_step {w0 w : World} {p b j nb : Nat} {u : Value} {ls : List Bs} (h : SureIn w0 w p b j nb u ls) (hpb : w0.heap.size ≤ p ∧ w0.heap.size ≤ b) (hj : w0.heap.size ≤ j) (y : Bs) (hroom : y.length ≤ 400 → (frames ls).length + (y.length + 8) ≤ 32 * nb) :
    Calls Tryd.prog 24 #[.pointer (some ⟨j, 0, none⟩), .string (mkS y)] w (SureStep w0 p b j nb u ls y) := by
  have hsz := size_mkS y
  have hli := list_mkS y
  by_cases hb : (mkS y).size = 0 ∨ 400 < (mkS y).size
  · refine (append_bad (mkS y) hb).mono ?_
    rintro e _ ⟨rfl, rfl⟩
    exact Or.inl ⟨3, rfl, by decide, by decide, h⟩
  · obtain ⟨rb, s, hl, hn, hu, hne, hrb, ho, hz⟩ := h
    have haw := hl.jn.away hl.st
    have hua := own_away hu hl.st hl.jn
    refine (app_go hl (mkS y) (by omega) (by omega) (by have := hroom (by omega); omega)).mono ?_
    rintro e w' ⟨s', P, hP, hT, ho', hr⟩
    rw [hli] at hr
    have hO := only_own ho ho' hpb hj hrb
    have hu' := own_keep hu ho' (by simp; exact fun g hg => ⟨(hua g hg).1, (hua g hg).2.1, (hua g hg).2.2, hne g hg⟩)
    rcases hr with ⟨rfl, rb', hrb', hl', _⟩ | ⟨rfl, _, hs', _, m, t, hm, hsc⟩
    · refine Or.inr (Or.inl ⟨rfl, rb', s', hl', hT.n.trans hn, hu', fun g hg e => ?_, rb_ge ho hrb hrb', hO⟩)
      rcases hrb' g e with h2 | h2
      · exact hne g hg h2
      · have := (hu.lt g hg).2; omega
    · refine Or.inr (Or.inr ⟨rfl, ?_, s', m, t, hs', hT.n.trans hn, hsc, hm, hu', hO⟩)
      rintro rfl
      exact hb (Or.inl hsz)
theorem own_empty (w : World) (t : TypeId) (base : Nat) (h : base ≤ w.heap.size) : (w.alloc (.cells #[] t)).ownsRow base t 1 (.slice (some ⟨w.heap.size, 0, none⟩) 0 0) 0 [] :=
  ⟨rfl, Or.inr ⟨w.heap.size, 0, #[], rfl, h, blk_new w _, Nat.le_refl _, Nat.zero_le _, rfl, rfl⟩⟩
theorem SureIn.empty {w0 w : World} {p b j nb : Nat} {rb : Option Nat} {s : St} (hl : Live w p b j rb s 0 nb []) (hn : s.n = nb) (hrb : ∀ g, rb = some g → w0.heap.size ≤ g) (ho : Only [] w0 w) : SureIn w0 (w.alloc (.cells #[] 9)) p b j nb (.slice (some ⟨w.heap.size, 0, none⟩) 0 0) [] := by
  have ha := (Only.refl [] w).alloc (.cells #[] 9)
  have haw := hl.jn.away hl.st
  exact ⟨rb, s, hl.only ha (by simp) (by simp) (by simp) (by simp), hn, own_empty w _ _ ho.size, fun g hg e => by cases hg; exact absurd (haw.2.2.2 _ e) (Nat.lt_irrefl _), hrb, ho.tr ha, by intro h; cases h⟩
/-- And behind it. -/
def SureOut (w0 wc : World) (p b nb : Nat) (u : Value) (un : Value) : Prop :=
  ∃ (s : St) (ls m : List Bs) (t y : Bs), StoreIs wc p b s ∧ s.n = nb ∧ IsScan (partB s 0 nb) m t ∧ wc.ownsRow w0.heap.size 9 1 u ls.length (ls.map strV) ∧ un = strV y ∧ (m = ls ∨ (y ≠ [] ∧ m = ls ++ [y])) ∧ (frames m).length ≤ 3160 ∧ ls.length ≤ 20 ∧ Only [] w0 wc ∧ u ≠ .slice none 0 0
theorem SureOut.torn {w0 w : World} {p b nb : Nat} {u : Value} {s : St} {ls m : List Bs} {t y : Bs} (hs : StoreIs w p b s) (hn : s.n = nb) (hsc : IsScan (partB s 0 nb) m t) (hu : w.ownsRow w0.heap.size 9 1 u ls.length (ls.map strV)) (hm : m = ls ∨ m = ls ++ [y]) (hy : y ≠ [])
    (h1 : (frames ls).length ≤ 3160) (h2 : (frames (ls ++ [y])).length ≤ 3160) (h3 : ls.length ≤ 20) (ho : Only [] w0 w) (hz : u ≠ .slice none 0 0) : SureOut w0 w p b nb u (.string (mkS y)) :=
  ⟨s, ls, m, t, y, hs, hn, hsc, hu, rfl, by rcases hm with h | h; exact Or.inl h; exact Or.inr ⟨hy, h⟩, by rcases hm with h | h <;> rw [h] <;> assumption, h3, ho, hz⟩
theorem SureIn.grown {w0 w w' : World} {p b j nb : Nat} {rb : Option Nat} {s : St} {u v : Value} {ls : List Bs} {y : Bs} (hl : Live w p b j rb s 0 nb (ls ++ [y])) (hn : s.n = nb) (hu : w.ownsRow w0.heap.size 9 1 u ls.length (ls.map strV)) (hne : ∀ g, u.ownBlock = some g → rb ≠ some g)
    (hrb : ∀ g, rb = some g → w0.heap.size ≤ g) (ho : Only [] w0 w) (o : Obj) (hown : w'.ownsRow w0.heap.size 9 1 v (ls.length + 1) (ls.map strV ++ [strV y])) (hg : (w.alloc o).grownBy w' u.ownBlock) (hat : v.ownBlock = u.ownBlock ∨ v.ownBlock = some (w.heap.size + 1)) (hnil : v ≠ .slice none 0 0) :
    SureIn w0 w' p b j nb v (ls ++ [y]) := by
  have haw := hl.jn.away hl.st
  have hua := own_away hu hl.st hl.jn
  have hO : Only u.ownBlock.toList w w' := ((Only.refl _ w).alloc o).grown hg (fun k hk => Or.inl (by rw [hk]; simp))
  have hm : ∀ x, x ∈ u.ownBlock.toList → u.ownBlock = some x := fun x hx => by simpa using hx
  refine ⟨rb, s, hl.only hO (fun hx => (hua p (hm p hx)).1 rfl) (fun hx => (hua b (hm b hx)).2.1 rfl) (fun hx => (hua j (hm j hx)).2.2 rfl) (fun g hg hx => hne g (hm g hx) hg), hn, by rw [List.length_append, List.map_append]; exact hown, fun g hg2 e => ?_, hrb, ho.trans hO (fun x hx => Or.inr (hu.lt x (hm x hx)).1), hnil⟩
  rcases hat with h | h
  · exact hne g (h ▸ hg2) e
  · rw [h] at hg2
    cases hg2
    have := haw.2.2.2 _ e
    omega
theorem own_store {w : World} {p b base n : Nat} {v : Value} {xs : List Value} {s : St} (h : w.ownsRow base 9 1 v n xs) (hs : StoreIs w p b s) : ∀ g, v.ownBlock = some g → g ≠ p ∧ g ≠ b := fun g hg => by
  obtain ⟨_, _, ⟨wr, z3⟩, z4⟩ := hs
  obtain ⟨cells, hc⟩ := own_typed h g hg
  exact ⟨(fun e => by rw [e, z3] at hc; cases hc), (fun e => by rw [e, z4] at hc; cases hc)⟩
theorem RowS.of_n {w : World} {base n : Nat} {v : Value} {l : List Bs} (h : w.ownsRow base 9 1 v n (l.map strV)) (hn : n = l.length) : RowS w v l := by
  subst hn
  exact RowS.of_own h
theorem bytes_ne {y : Bs} (h : y ≠ []) : ((mkS y).toList == ([] : List UInt8)) = false := by
  rw [ByteArray.toList_eq, list_mkS, beq_eq_false_iff_ne]
  exact h
/-- The append law at an operation whose guard wants it. -/
theorem append_want {P : Program} (w : World) {ops : Array Oper} {rest : List Oper} {o : Oper} {a : Act} {Q : Exit → Act → World → Prop} (hw : Region.wanted o (yielded ops a.tmps) = true) (s x : Operand) (t : TypeId)
    (ho : o.op = .call { callee := .builtin .append, args := #[s, x], argTypes := #[t, t] })
    (base : Nat) (e : TypeId) (i : TypeInfo) (z : Value) (size bytes : Nat) (ht : P.underlying t = some (.slice e)) (hi : P.info? e = some i) (hz : i.zero = some z)
    (hsize : i.size = size) (hby : i.bytes = bytes) (hzs : z.cells.size = size) (hsz : 0 < size)
    (v : Value) (n : Nat) (xs : List Value) (hs : a.eval s = v) (hown : w.ownsRow base e size v n xs)
    (ad : Addr) (m c : Nat) (news : List Value) (hx : a.eval x = .slice (some ad) m c) (hl : news.length = m * size) (hnews : ∀ j u, news[j]? = some u → w.cell? (ad.add j) = some u) (h1 : ∀ u ∈ news, u.oneCell' = true)
    (h63 : n + m ≤ maxLen) (hbytes : (n + m) * bytes ≤ 140737488355328) (hbase : base ≤ w.heap.size)
    (h : ∀ v' w', w'.ownsRow base e size v' (n + m) (xs ++ news) → w.grownBy w' v.ownBlock → (v'.ownBlock = v.ownBlock ∨ v'.ownBlock = some w.heap.size) → wpList P ops Q rest (a.put o.dst v') w') :
    wpList P ops Q (o :: rest) a w := by
  refine BigFrame.wpList_want hw fun K hK => ?_
  obtain ⟨v', w', hr, h2, h3, h4, h5⟩ := run_append_own_at (P := P) w base t o.type e i z size bytes ht hi hz hsize hby hzs hsz v n xs hown ad m c news hl hnews h1 h63 hbytes hbase
  unfold Oper.wp execOp
  simp only [ho, resolve, invoke, builtin, Sem.run_bind, Sem.run_pure, Result.andThen_ok, List.map_toArray, List.map_cons, List.map_nil, hs, hx, hr]
  exact hK _ _ (h v' w' h2 h3 h5)
def goesOn : Bs := [103, 111, 101, 115, 32, 111, 110]
theorem Same_ne {w : World} {v u : Value} {l m : List Bs} (hv : RowS w v l) (hu : RowS w u m) (hl : l.length ≤ 1000000) (hne : l ≠ m) :
    Calls Tryd.prog 13 #[v, u] w fun e w' => e = .returned (.bool false) ∧ Only [] w w' := by
  refine (Same_of hv hu (by omega)).mono ?_
  rintro e w' ⟨rfl, d, rfl⟩
  exact ⟨by rw [decide_eq_false hne], (Only.refl _ _).drewN d⟩
theorem grown_new {w w' : World} {o : Obj} {row : Option Nat} (hg : (w.alloc o).grownBy w' row) (hr : ∀ g, row = some g → w.heap.size ≤ g) : Only [] w w' :=
  ((Only.refl [] w).alloc o).grown hg (fun k hk => Or.inr (hr k hk))
theorem SureIn.out {w0 w : World} {p b j nb : Nat} {u : Value} {ls : List Bs} (h : SureIn w0 w p b j nb u ls) (h1 : (frames ls).length ≤ 3160) (h2 : ls.length ≤ 20) : SureOut w0 w p b nb u (.string ByteArray.empty) := by
  obtain ⟨rb, s, hl, hn, hu, hne, hrb, ho, hz⟩ := h
  exact ⟨s, ls, ls, _, [], hl.st, hn, hl.sd.scan, hu, rfl, Or.inl rfl, h1, h2, ho, hz⟩
end Go.Proofs.YtngcdkbnljoodaaDoor

namespace Go.Proofs.YtngcdkbnljoodaaDoor
set_option linter.unusedVariables false
set_option linter.unusedSimpArgs false
open Go.RowKit Go.Proofs.YtngcdkbnljoodaaDoorW.PrintWords

/-- A write while no fuse burns. -/
theorem write_up {w : World} {p b i : Nat} {s : St} (h : StoreIs w p b s) (hd : s.down = false) (hf : s.fuse = -1) (hi : i < s.n) (d : ByteArray) (hl : d.size = 32) :
    Calls Tryd.prog 37 #[.pointer (some ⟨p, 0, none⟩), .int .i64 (i : Int), .string d] w fun e w' => e = .returned (.int .i64 0) ∧ StoreIs w' p b { s with bs := splice s.bs (32 * i) d.data.toList, fuse := -1 } ∧ Only [p, b] w w' := by
  have hm : s.may (i : Int) = 0 := by unfold St.may; rw [hd, if_neg (by decide), if_neg (by omega)]
  have hw : s.write (i : Int) d.data.toList = ({ s with bs := splice s.bs (32 * i) d.data.toList, fuse := -1 }, 0) := by
    have hdl : d.data.toList.length = 32 := hl
    unfold St.write
    rw [if_neg (by rw [hm]; decide), if_neg (by omega), if_neg (by rw [hf]; decide), hf]
    rfl
  refine (write_of h (i : Int) d).mono ?_
  rintro e w' ⟨rfl, hs, ho⟩
  rw [hw] at hs ⊢
  exact ⟨rfl, hs, ho⟩
/-- The journal while records are appended and no fuse burns. -/
def AgIn (w0 wr : World) (p b j nb B : Nat) : Prop :=
  ∃ rb s ls, Live wr p b j rb s 0 nb ls ∧ s.n = nb ∧ s.fuse = -1 ∧ (frames ls).length ≤ B ∧ (∀ g, rb = some g → w0.heap.size ≤ g) ∧ Only [] w0 wr
theorem ag_step {w0 w : World} {p b j nb B : Nat} (h : AgIn w0 w p b j nb B) (hpb : w0.heap.size ≤ p ∧ w0.heap.size ≤ b) (hj : w0.heap.size ≤ j) (y : Bs) (hroom : B + (y.length + 8) ≤ 32 * nb) :
    Calls Tryd.prog 24 #[.pointer (some ⟨j, 0, none⟩), .string (mkS y)] w fun e w' => ∃ c : Int, e = .returned (.int .i64 c) ∧ AgIn w0 w' p b j nb (B + (y.length + 8)) := by
  have hsz := size_mkS y
  have hli := list_mkS y
  obtain ⟨rb, s, ls, hl, hn, hf, hB, hrb, ho⟩ := h
  by_cases hb : (mkS y).size = 0 ∨ 400 < (mkS y).size
  · refine (append_bad (mkS y) hb).mono ?_
    rintro e _ ⟨rfl, rfl⟩
    exact ⟨3, rfl, rb, s, ls, hl, hn, hf, by omega, hrb, ho⟩
  · refine (app_sure hl hf (mkS y) (by omega) (by omega) (by omega)).mono ?_
    rintro e w' ⟨rfl, s', P, rb', hP, hT, ho', hrb', hl', hfu⟩
    rw [hli] at hl'
    exact ⟨0, rfl, rb', s', ls ++ [y], hl', hT.n.trans hn, hfu, by rw [frames_snoc, List.length_append, frameL_length]; omega, rb_ge ho hrb hrb', only_own ho ho' hpb hj hrb⟩
theorem AgIn.le {w0 w : World} {p b j nb B B' : Nat} (h : AgIn w0 w p b j nb B) (hB : B ≤ B') : AgIn w0 w p b j nb B' := by
  obtain ⟨rb, s, ls, hl, hn, hf, hb, hrb, ho⟩ := h
  exact ⟨rb, s, ls, hl, hn, hf, by omega, hrb, ho⟩
theorem AgIn.on {w0 w : World} {p b j nb B : Nat} (h : AgIn w0 w p b j nb B) : Only [] w0 w := by
  obtain ⟨_, _, _, _, _, _, _, _, ho⟩ := h
  exact ho
/-- The store while its blocks are written anew. -/
def AgW (w0 wr : World) (p b nb : Nat) (N O : Bs) (i : Nat) : Prop :=
  ∃ s : St, StoreIs wr p b s ∧ s.n = nb ∧ s.down = false ∧ s.fuse = -1 ∧ s.bs = N.take (32 * i) ++ O.drop (32 * i) ∧ Only [] w0 wr
theorem AgW.only {w0 w w' : World} {p b nb i : Nat} {N O : Bs} (h : AgW w0 w p b nb N O i) (ho : Only [] w w') : AgW w0 w' p b nb N O i := by
  obtain ⟨s, hs, hn, hd, hf, hbs, ho'⟩ := h
  exact ⟨s, hs.only ho (by simp) (by simp), hn, hd, hf, hbs, ho'.tr ho⟩
theorem agw_step {w0 w : World} {p b nb i : Nat} {N O : Bs} (h : AgW w0 w p b nb N O i) (hpb : w0.heap.size ≤ p ∧ w0.heap.size ≤ b) (hN : N.length = 32 * nb) (hO : O.length = 32 * nb) (hi : i < nb) :
    Calls Tryd.prog 37 #[.pointer (some ⟨p, 0, none⟩), .int .i64 (i : Int), .string (mkS (blk N i))] w fun e w' => e = .returned (.int .i64 0) ∧ AgW w0 w' p b nb N O (i + 1) := by
  obtain ⟨s, hs, hn, hd, hf, hbs, ho⟩ := h
  have hbl := blk_length N nb i hN hi
  refine (write_up hs hd hf (by omega) (mkS (blk N i)) (by rw [size_mkS, hbl])).mono ?_
  rintro e w' ⟨rfl, hs', ho'⟩
  refine ⟨rfl, _, hs', hn, hd, rfl, ?_, ho.trans ho' (by simp; exact hpb)⟩
  show splice s.bs (32 * i) (mkS (blk N i)).data.toList = _
  have h2 := splice_step N O nb i 32 hN hO hi (Nat.le_refl _)
  rw [show (blk N i).take 32 = blk N i from List.take_of_length_le (by omega)] at h2
  rw [hbs, list_mkS, h2]
  rfl
end Go.Proofs.YtngcdkbnljoodaaDoor

namespace Go.Proofs.YtngcdkbnljoodaaDoor
set_option linter.unusedVariables false
set_option linter.unusedSimpArgs false
open Go.RowKit Go.Proofs.YtngcdkbnljoodaaDoorW.PrintWords

/-- Another part's bytes stay. -/
theorem Turned.other {s s' : St} {pf nb pf2 nb2 : Nat} {P : Bs} (hs : s.Wf) (h : s.Has pf nb) (hP : P.length = 32 * nb) (t : Turned s s' pf nb P) (h2 : s.Has pf2 nb2) (hd : pf2 + nb2 ≤ pf ∨ pf + nb ≤ pf2) : partB s' pf2 nb2 = partB s pf2 nb2 := by
  have hlen := hs.len
  have hh := h.2
  have hh2 := h2.2
  have hl : (s.bs.take (32 * pf)).length = 32 * pf := by rw [List.length_take]; omega
  unfold partB
  rw [t.bs]
  rcases hd with hd | hd
  · rw [List.append_assoc, List.drop_append_of_le_length (by omega), List.take_append_of_le_length (by rw [List.length_drop]; omega), List.drop_take, List.take_take, Nat.min_eq_left (by omega)]
  · rw [List.drop_append, List.drop_of_length_le (by rw [List.length_append]; omega), List.nil_append, List.length_append, hl, hP, List.drop_drop]
    congr 2
    omega
theorem Sound.other {s s' : St} {pf nb pf2 nb2 : Nat} {P : Bs} {l : List Bs} (h : s.Has pf nb) (hP : P.length = 32 * nb) (t : Turned s s' pf nb P) (h2 : Sound s pf2 nb2 l) (hd : pf2 + nb2 ≤ pf ∨ pf + nb ≤ pf2) : Sound s' pf2 nb2 l :=
  ⟨t.wf, ⟨h2.has.1, by rw [t.n]; exact h2.has.2⟩, h2.ok, h2.fits, by rw [t.other h2.wf h hP h2.has hd]; exact h2.eq⟩
end Go.Proofs.YtngcdkbnljoodaaDoor

namespace Go.Proofs.YtngcdkbnljoodaaDoor
set_option linter.unusedVariables false
set_option linter.unusedSimpArgs false
open Go.RowKit Go.Proofs.YtngcdkbnljoodaaDoorW.PrintWords

def upd {A : Type} (f : Nat → A) (k : Nat) (v : A) : Nat → A := fun i => if i = k then v else f i
theorem upd_at {A : Type} (f : Nat → A) (k : Nat) (v : A) : upd f k v k = v := if_pos rfl
theorem upd_ne {A : Type} (f : Nat → A) {i k : Nat} (v : A) (h : i ≠ k) : upd f k v i = f i := if_neg h
theorem upd_same {A : Type} (f : Nat → A) (k : Nat) : upd f k (f k) = f := by
  funext i
  by_cases h : i = k
  · rw [h, upd_at]
  · rw [upd_ne _ _ h]
/-- A type of which the journal turns nothing. -/
def ArrT (t : TypeId) : Prop := t ≠ 45 ∧ t ≠ 95 ∧ t ≠ 75 ∧ t ≠ 9
/-- What is of no such type stays. -/
def KeepA (w w' : World) : Prop := ∀ (g : Nat) (cs : Array Value) (t : TypeId) (f : Nat × Nat), ArrT t → w.heap[g]? = some (.cells cs t f) → w'.heap[g]? = some (.cells cs t f)
theorem KeepA.trans {a b c : World} (h : KeepA a b) (k : KeepA b c) : KeepA a c := fun g cs t f ht hg => k g cs t f ht (h g cs t f ht hg)
theorem KeepA.of_only {S : List Nat} {w w' : World} (ho : Only S w w') (hS : ∀ g, g ∈ S → ∃ cs t f, w.heap[g]? = some (.cells cs t f) ∧ ¬ ArrT t) : KeepA w w' := fun g cs t f ht hg => by
  refine ho.blk hg (fun hm => ?_)
  obtain ⟨cs', t', f', h1, h2⟩ := hS g hm
  rw [hg] at h1
  cases h1
  exact h2 ht
theorem KeepA.of_nil {w w' : World} (ho : Only [] w w') : KeepA w w' := KeepA.of_only ho (by simp)
theorem notArr_string : ¬ ArrT 9 := fun h => h.2.2.2 rfl
theorem notArr_jn : ¬ ArrT 75 := fun h => h.2.2.1 rfl
/-- The three parts of a store of 60 blocks. -/
structure Geo (fr nb : Nat → Nat) : Prop where
  ne : ∀ i k, i < 3 → k < 3 → i ≠ k → fr i + nb i ≤ fr k ∨ fr k + nb k ≤ fr i
  has : ∀ k, k < 3 → 1 ≤ nb k ∧ fr k + nb k ≤ 60
/-- The store, the first n parts' journals, and three rows of records. -/
structure Pa (w0 w : World) (p b : Nat) (fr nb : Nat → Nat) (n : Nat) (J : Nat → Nat) (RB : Nat → Option Nat) (LS WS : Nat → List Bs) (V : Nat → Value) (s : St) : Prop where
  geo : Geo fr nb
  n3 : n ≤ 3
  pb : w0.heap.size ≤ p ∧ w0.heap.size ≤ b
  st : StoreIs w p b s
  sn : s.n = 60
  up : s.down = false
  fu : s.fuse = -1
  jn : ∀ k, k < n → JnIs w (J k) (RB k) p (fr k) (nb k) (LS k) (frames (LS k)).length false
  sd : ∀ k, k < n → Sound s (fr k) (nb k) (LS k)
  zz : ∀ k, n ≤ k → k < 3 → partB s (fr k) (nb k) = zs (32 * nb k) ∧ LS k = []
  jj : ∀ i k, i < n → k < n → i ≠ k → J i ≠ J k
  rr : ∀ i k, i < n → k < n → i ≠ k → ∀ g, RB i = some g → RB k ≠ some g
  vv : ∀ k, k < 3 → w.ownsRow w0.heap.size 9 1 (V k) (WS k).length ((WS k).map strV)
  ww : ∀ i k, i < 3 → k < 3 → i ≠ k → ∀ g, (V i).ownBlock = some g → (V k).ownBlock ≠ some g
  vr : ∀ i k, i < 3 → k < n → ∀ g, (V i).ownBlock = some g → RB k ≠ some g
  gj : ∀ k, k < n → w0.heap.size ≤ J k
  gr : ∀ k, k < n → ∀ g, RB k = some g → w0.heap.size ≤ g
  on : Only [] w0 w
theorem Pa.live {w0 w : World} {p b n : Nat} {fr nb J : Nat → Nat} {RB : Nat → Option Nat} {LS WS : Nat → List Bs} {V : Nat → Value} {s : St} (h : Pa w0 w p b fr nb n J RB LS WS V s) {k : Nat} (hk : k < n) : Live w p b (J k) (RB k) s (fr k) (nb k) (LS k) :=
  ⟨h.st, h.jn k hk, h.sd k hk, h.up⟩
theorem own_type {w : World} {base n : Nat} {v : Value} {xs : List Value} (h : w.ownsRow base 9 1 v n xs) {g : Nat} (hg : v.ownBlock = some g) : ∃ cs f, w.heap[g]? = some (.cells cs 9 f) := by
  obtain ⟨cells, hc⟩ := own_typed h g hg
  exact ⟨_, _, hc⟩
theorem JnIs.typeJ {w : World} {j p pf nb fin : Nat} {rb : Option Nat} {l : List Bs} {o : Bool} (h : JnIs w j rb p pf nb l fin o) : ∃ cs f, w.heap[j]? = some (.cells cs 75 f) := by
  obtain ⟨v, hv, _⟩ := h.ex
  exact ⟨_, _, hv⟩
theorem JnIs.typeR {w : World} {j p pf nb fin : Nat} {rb : Option Nat} {l : List Bs} {o : Bool} (h : JnIs w j rb p pf nb l fin o) {g : Nat} (hg : rb = some g) : ∃ cs f, w.heap[g]? = some (.cells cs 9 f) := by
  obtain ⟨v, hv, hown, hr⟩ := h.ex
  exact own_type hown (hr.trans hg)
theorem StoreIs.typeP {w : World} {p b : Nat} {s : St} (h : StoreIs w p b s) : ∃ cs f, w.heap[p]? = some (.cells cs 45 f) := by
  obtain ⟨_, _, ⟨wr, z⟩, _⟩ := h
  exact ⟨_, _, z⟩
theorem StoreIs.typeB {w : World} {p b : Nat} {s : St} (h : StoreIs w p b s) : ∃ cs f, w.heap[b]? = some (.cells cs 95 f) := ⟨_, _, h.row⟩
theorem ty_ne {w : World} {g k : Nat} {t u : TypeId} (h : ∃ cs f, w.heap[g]? = some (.cells cs t f)) (h2 : ∃ cs f, w.heap[k]? = some (.cells cs u f)) (hn : t ≠ u) : g ≠ k := by
  rintro rfl
  obtain ⟨cs, f, h⟩ := h
  obtain ⟨cs2, f2, h2⟩ := h2
  rw [h] at h2
  cases h2
  exact hn rfl
theorem ty_lt {w : World} {g : Nat} {t : TypeId} (h : ∃ cs f, w.heap[g]? = some (.cells cs t f)) : g < w.heap.size := by
  obtain ⟨cs, f, h⟩ := h
  exact blk_lt h
theorem ty_not {w : World} {g : Nat} {t : TypeId} {S : List Nat} (h : ∃ cs f, w.heap[g]? = some (.cells cs t f)) (hS : ∀ g, g ∈ S → ∃ cs u f, w.heap[g]? = some (.cells cs u f) ∧ u ≠ t) : g ∉ S := fun hm => by
  obtain ⟨cs, u, f, h1, h2⟩ := hS g hm
  obtain ⟨cs2, f2, h⟩ := h
  rw [h] at h1
  cases h1
  exact h2 rfl
/-- All stays but for blocks of other types. -/
theorem Pa.only {S : List Nat} {w0 w w' : World} {p b n : Nat} {fr nb J : Nat → Nat} {RB : Nat → Option Nat} {LS WS : Nat → List Bs} {V : Nat → Value} {s : St} (h : Pa w0 w p b fr nb n J RB LS WS V s) (ho : Only S w w')
    (hS : ∀ g, g ∈ S → w0.heap.size ≤ g ∧ ∃ cs t f, w.heap[g]? = some (.cells cs t f) ∧ ArrT t) : Pa w0 w' p b fr nb n J RB LS WS V s := by
  have h1 : ∀ g t, (∃ cs f, w.heap[g]? = some (.cells cs t f)) → ¬ ArrT t → g ∉ S := fun g t hg ht hm => by
    obtain ⟨_, cs, u, f, h1, h2⟩ := hS g hm
    obtain ⟨cs2, f2, h3⟩ := hg
    rw [h3] at h1
    cases h1
    exact ht h2
  exact { geo := h.geo, n3 := h.n3, pb := h.pb, sn := h.sn, up := h.up, fu := h.fu, sd := h.sd, zz := h.zz, jj := h.jj, rr := h.rr, ww := h.ww, vr := h.vr, gj := h.gj, gr := h.gr
          st := h.st.only ho (h1 _ _ h.st.typeP (fun h => h.1 rfl)) (h1 _ _ h.st.typeB (fun h => h.2.1 rfl))
          jn := fun k hk => (h.jn k hk).only ho (h1 _ _ (h.jn k hk).typeJ notArr_jn) (fun g hg => h1 _ _ ((h.jn k hk).typeR hg) notArr_string)
          vv := fun k hk => own_keep (h.vv k hk) ho (fun g hg => h1 _ _ (own_type (h.vv k hk) hg) notArr_string)
          on := h.on.trans ho (fun x hx => Or.inr (hS x hx).1) }
theorem Pa.keep {w0 w w' : World} {p b n : Nat} {fr nb J : Nat → Nat} {RB : Nat → Option Nat} {LS WS : Nat → List Bs} {V : Nat → Value} {s : St} (h : Pa w0 w p b fr nb n J RB LS WS V s) (ho : Only [] w w') : Pa w0 w' p b fr nb n J RB LS WS V s := h.only ho (by simp)
/-- What an append to a part's journal turns is of no other type. -/
theorem Pa.keepA {w0 w w' : World} {p b n k : Nat} {fr nb J : Nat → Nat} {RB : Nat → Option Nat} {LS WS : Nat → List Bs} {V : Nat → Value} {s : St} (h : Pa w0 w p b fr nb n J RB LS WS V s) (hk : k < n) (ho : Only ([p, b] ++ (J k :: (RB k).toList)) w w') : KeepA w w' := by
  refine KeepA.of_only ho (fun g hg => ?_)
  simp at hg
  rcases hg with rfl | rfl | rfl | hg
  · obtain ⟨cs, f, h2⟩ := h.st.typeP; exact ⟨cs, _, f, h2, fun h => h.1 rfl⟩
  · obtain ⟨cs, f, h2⟩ := h.st.typeB; exact ⟨cs, _, f, h2, fun h => h.2.1 rfl⟩
  · obtain ⟨cs, f, h2⟩ := (h.jn k hk).typeJ; exact ⟨cs, _, f, h2, notArr_jn⟩
  · obtain ⟨cs, f, h2⟩ := (h.jn k hk).typeR hg; exact ⟨cs, _, f, h2, notArr_string⟩
theorem Pa.keepS {w0 w w' : World} {p b n : Nat} {fr nb J : Nat → Nat} {RB : Nat → Option Nat} {LS WS : Nat → List Bs} {V : Nat → Value} {s : St} (h : Pa w0 w p b fr nb n J RB LS WS V s) (ho : Only [p, b] w w') : KeepA w w' := by
  refine KeepA.of_only ho (fun g hg => ?_)
  simp at hg
  rcases hg with rfl | rfl
  · obtain ⟨cs, f, h2⟩ := h.st.typeP; exact ⟨cs, _, f, h2, fun h => h.1 rfl⟩
  · obtain ⟨cs, f, h2⟩ := h.st.typeB; exact ⟨cs, _, f, h2, fun h => h.2.1 rfl⟩
/-- One append: a part's journal takes the record, or it doesn't. -/
def AppP (w0 : World) (p b : Nat) (fr nb J : Nat → Nat) (LS WS : Nat → List Bs) (V : Nat → Value) (k : Nat) (y : Bs) (w : World) (e : Ending) (w' : World) : Prop := KeepA w w' ∧
  ((∃ c : Int, e = .returned (.int .i64 c) ∧ (c = 3 ∨ c = 14) ∧ ∃ RB s, Pa w0 w' p b fr nb 3 J RB LS WS V s) ∨
    (e = .returned (.int .i64 0) ∧ ∃ RB s, Pa w0 w' p b fr nb 3 J RB (upd LS k (LS k ++ [y])) WS V s))
theorem pa_app {w0 w : World} {p b k : Nat} {fr nb J : Nat → Nat} {RB : Nat → Option Nat} {LS WS : Nat → List Bs} {V : Nat → Value} {s : St} (h : Pa w0 w p b fr nb 3 J RB LS WS V s) (hk : k < 3) (y : Bs) :
    Calls Tryd.prog 24 #[.pointer (some ⟨J k, 0, none⟩), .string (mkS y)] w (AppP w0 p b fr nb J LS WS V k y w) := by
  have hsz := size_mkS y
  have hli := list_mkS y
  by_cases hb : (mkS y).size = 0 ∨ 400 < (mkS y).size
  · refine (append_bad (mkS y) hb).mono ?_
    rintro e _ ⟨rfl, rfl⟩
    exact ⟨fun _ _ _ _ _ h => h, Or.inl ⟨3, rfl, Or.inl rfl, RB, s, h⟩⟩
  · by_cases hroom : (frames (LS k)).length + ((mkS y).size + 8) ≤ 32 * nb k
    · refine (app_sure (h.live hk) h.fu (mkS y) (by omega) (by omega) hroom).mono ?_
      rintro e w' ⟨rfl, s', P, rb', hP, hT, ho, hrb', hl', hfu⟩
      rw [hli] at hl'
      have aw := (h.jn k hk).away h.st
      have hO := only_own h.on ho h.pb (h.gj k hk) (h.gr k hk)
      refine ⟨h.keepA hk ho, Or.inr ⟨rfl, upd RB k rb', s', ?_⟩⟩
      have hrbk : ∀ i g, i < 3 → upd RB k rb' i = some g → (RB i = some g ∨ (i = k ∧ w.heap.size ≤ g)) := fun i g hi hg => by
        by_cases hik : i = k
        · subst hik
          rw [upd_at] at hg
          rcases hrb' g hg with h2 | h2
          · exact Or.inl h2
          · exact Or.inr ⟨rfl, h2⟩
        · rw [upd_ne _ _ hik] at hg
          exact Or.inl hg
      have hrlt : ∀ i g, i < 3 → RB i = some g → g < w.heap.size := fun i g hi hg => ty_lt ((h.jn i hi).typeR hg)
      refine { geo := h.geo, n3 := h.n3, pb := h.pb, st := hl'.st, sn := hT.n.trans h.sn, up := hl'.up, fu := hfu, jn := fun i hi => ?_, sd := fun i hi => ?_, zz := fun i hi hi3 => by omega, jj := h.jj, rr := fun i m hi hm him g hg e => ?_, vv := fun i hi => ?_, ww := h.ww, vr := fun i m hi hm g hg e => ?_, gj := h.gj, gr := fun i hi g hg => ?_, on := hO }
      · by_cases hik : i = k
        · subst hik
          rw [upd_at, upd_at]
          exact hl'.jn
        · rw [upd_ne _ _ hik, upd_ne _ _ hik]
          have ai := (h.jn i hi).away h.st
          refine (h.jn i hi).only ho ?_ (fun g hg => ?_)
          · simp
            exact ⟨ai.1.1, ai.1.2, h.jj i k hi hk hik, fun e => ty_ne (h.jn i hi).typeJ ((h.jn k hk).typeR e) (by decide) rfl⟩
          · simp
            exact ⟨(ai.2.1 g hg).1, (ai.2.1 g hg).2, ty_ne ((h.jn i hi).typeR hg) (h.jn k hk).typeJ (by decide), h.rr i k hi hk hik g hg⟩
      · by_cases hik : i = k
        · subst hik
          rw [upd_at]
          exact hl'.sd
        · rw [upd_ne _ _ hik]
          exact Sound.other (h.sd k hk).has hP hT (h.sd i hi) (h.geo.ne i k hi hk hik)
      · rcases hrbk i g hi hg with h1 | ⟨rfl, h1⟩
        · rcases hrbk m g hm e with h2 | ⟨rfl, h2⟩
          · exact h.rr i m hi hm him g h1 h2
          · have := hrlt i g hi h1; omega
        · rcases hrbk m g hm e with h2 | ⟨rfl, h2⟩
          · have := hrlt m g hm h2; omega
          · exact him rfl
      · refine own_keep (h.vv i hi) ho (fun g hg => ?_)
        have hty := own_type (h.vv i hi) hg
        simp
        exact ⟨ty_ne hty h.st.typeP (by decide), ty_ne hty h.st.typeB (by decide), ty_ne hty (h.jn k hk).typeJ (by decide), h.vr i k hi hk g hg⟩
      · rcases hrbk m g hm e with h2 | ⟨rfl, h2⟩
        · exact h.vr i m hi hm g hg h2
        · have := ty_lt (own_type (h.vv i hi) hg); omega
      · rcases hrbk i g hi hg with h2 | ⟨rfl, h2⟩
        · exact h.gr i hi g h2
        · have := h.on.size; omega
    · refine (app_full (h.live hk) (mkS y) (by omega) (by omega) (by omega)).mono ?_
      rintro e w' ⟨rfl, ho⟩
      exact ⟨KeepA.of_nil ho, Or.inl ⟨14, rfl, Or.inr rfl, RB, s, h.keep ho⟩⟩
theorem has_of {fr nb : Nat → Nat} {s : St} (g : Geo fr nb) (hn : s.n = 60) {k : Nat} (hk : k < 3) : s.Has (fr k) (nb k) := ⟨(g.has k hk).1, by rw [hn]; exact (g.has k hk).2⟩
/-- The next part is opened. -/
theorem pa_open {w0 w : World} {p b k : Nat} {fr nb J : Nat → Nat} {RB : Nat → Option Nat} {LS WS : Nat → List Bs} {V : Nat → Value} {s : St} (h : Pa w0 w p b fr nb k J RB LS WS V s) (hk : k < 3) :
    Calls Tryd.prog 23 #[.pointer (some ⟨p, 0, none⟩), .int .i64 (fr k : Int), .int .i64 (nb k : Int)] w fun e w' => KeepA w w' ∧ ∃ (j : Nat) (a : Option Addr) (n c : Nat), e = .returned (.tuple #[.pointer (some ⟨j, 0, none⟩), .slice a n c, .int .i64 0]) ∧ w0.heap.size ≤ j ∧ ∃ RB s, Pa w0 w' p b fr nb (k + 1) (upd J k j) RB LS WS V s := by
  have hh := has_of h.geo h.sn hk
  have hz := h.zz k (Nat.le_refl _) hk
  refine (part_up h.st hh h.up h.fu (l := []) (t := zs (32 * nb k)) ⟨by rw [hz.1]; rfl, by simp, oneL_zs _⟩).mono ?_
  rintro e w' ⟨s', j, rb, v, rfl, hl, hfu, ⟨P, hP, hT⟩, hj, hrb, hown, hne, ho⟩
  obtain ⟨va, vc, rfl, _⟩ := RowS.of_own hown
  have hsz := h.on.size
  refine ⟨h.keepS ho, j, va, _, vc, rfl, by omega, upd RB k rb, s', ?_⟩
  have hJ : ∀ i, i < k → J i < w.heap.size := fun i hi => ty_lt (h.jn i hi).typeJ
  have hR : ∀ i, i < k → ∀ g, RB i = some g → g < w.heap.size := fun i hi g hg => ty_lt ((h.jn i hi).typeR hg)
  have hO := h.on.trans ho (by simp; exact h.pb)
  refine { geo := h.geo, n3 := hk, pb := h.pb, st := hl.st, sn := hT.n.trans h.sn, up := hl.up, fu := hfu, jn := fun i hi => ?_, sd := fun i hi => ?_, zz := fun i hi hi3 => ?_, jj := fun i m hi hm him => ?_, rr := fun i m hi hm him g hg e => ?_, vv := fun i hi => ?_, ww := h.ww, vr := fun i m hi hm g hg e => ?_, gj := fun i hi => ?_, gr := fun i hi g hg => ?_, on := hO }
  · by_cases hik : i = k
    · subst hik
      rw [upd_at, upd_at, hz.2]
      exact hl.jn
    · have hi' : i < k := by omega
      rw [upd_ne _ _ hik, upd_ne _ _ hik]
      have ai := (h.jn i hi').away h.st
      exact (h.jn i hi').only ho (by simp; exact ai.1) (fun g hg => by simp; exact ai.2.1 g hg)
  · by_cases hik : i = k
    · subst hik
      rw [hz.2]
      exact hl.sd
    · exact Sound.other hh hP hT (h.sd i (by omega)) (h.geo.ne i k (by omega) hk hik)
  · have hik : i ≠ k := by omega
    have hi2 := h.zz i (by omega) hi3
    exact ⟨by rw [hT.other h.st.wf hh hP (has_of h.geo h.sn hi3) (h.geo.ne i k hi3 hk hik)]; exact hi2.1, hi2.2⟩
  · by_cases hik : i = k
    · subst hik
      have := hJ m (by omega)
      rw [upd_at, upd_ne _ _ (fun e => him e.symm)]; omega
    · by_cases hmk : m = k
      · subst hmk
        have := hJ i (by omega)
        rw [upd_at, upd_ne _ _ him]; omega
      · rw [upd_ne _ _ hik, upd_ne _ _ hmk]
        exact h.jj i m (by omega) (by omega) him
  · by_cases hik : i = k
    · subst hik
      rw [upd_at] at hg
      rw [upd_ne _ _ (fun e => him e.symm)] at e
      have := hR m (by omega) g e
      have := hrb g hg
      omega
    · rw [upd_ne _ _ hik] at hg
      by_cases hmk : m = k
      · subst hmk
        rw [upd_at] at e
        have := hR i (by omega) g hg
        have := hrb g e
        omega
      · rw [upd_ne _ _ hmk] at e
        exact h.rr i m (by omega) (by omega) him g hg e
  · refine own_keep (h.vv i hi) ho (fun g hg => ?_)
    have hty := own_type (h.vv i hi) hg
    simp
    exact ⟨ty_ne hty h.st.typeP (by decide), ty_ne hty h.st.typeB (by decide)⟩
  · by_cases hmk : m = k
    · subst hmk
      rw [upd_at] at e
      have := hrb g e
      have := ty_lt (own_type (h.vv i hi) hg); omega
    · rw [upd_ne _ _ hmk] at e
      exact h.vr i m hi (by omega) g hg e
  · by_cases hik : i = k
    · subst hik
      rw [upd_at]; omega
    · rw [upd_ne _ _ hik]; exact h.gj i (by omega)
  · by_cases hik : i = k
    · subst hik
      rw [upd_at] at hg
      have := hrb g hg; omega
    · rw [upd_ne _ _ hik] at hg; exact h.gr i (by omega) g hg
/-- A part is opened again. -/
theorem pa_reopen {w0 w : World} {p b k : Nat} {fr nb J : Nat → Nat} {RB : Nat → Option Nat} {LS WS : Nat → List Bs} {V : Nat → Value} {s : St} (h : Pa w0 w p b fr nb 3 J RB LS WS V s) (hk : k < 3) :
    Calls Tryd.prog 23 #[.pointer (some ⟨p, 0, none⟩), .int .i64 (fr k : Int), .int .i64 (nb k : Int)] w fun e w' => KeepA w w' ∧ Only [p, b] w w' ∧ ∃ (j : Nat) (v : Value), e = .returned (.tuple #[.pointer (some ⟨j, 0, none⟩), v, .int .i64 0]) ∧ w'.ownsRow w.heap.size 9 1 v (LS k).length ((LS k).map strV) ∧ ∃ s, Pa w0 w' p b fr nb 3 J RB LS WS V s := by
  have hh := has_of h.geo h.sn hk
  refine (part_up h.st hh h.up h.fu (h.sd k hk).scan).mono ?_
  rintro e w' ⟨s', j, rb, v, rfl, hl, hfu, ⟨P, hP, hT⟩, hj, hrb, hown, hne, ho⟩
  refine ⟨h.keepS ho, ho, j, v, rfl, hown, s', ?_⟩
  have hO := h.on.trans ho (by simp; exact h.pb)
  refine { geo := h.geo, n3 := h.n3, pb := h.pb, st := hl.st, sn := hT.n.trans h.sn, up := hl.up, fu := hfu, jn := fun i hi => ?_, sd := fun i hi => ?_, zz := fun i hi hi3 => by omega, jj := h.jj, rr := h.rr, vv := fun i hi => ?_, ww := h.ww, vr := h.vr, gj := h.gj, gr := h.gr, on := hO }
  · have ai := (h.jn i hi).away h.st
    exact (h.jn i hi).only ho (by simp; exact ai.1) (fun g hg => by simp; exact ai.2.1 g hg)
  · by_cases hik : i = k
    · subst hik
      exact hl.sd
    · exact Sound.other hh hP hT (h.sd i (by omega)) (h.geo.ne i k (by omega) hk hik)
  · refine own_keep (h.vv i hi) ho (fun g hg => ?_)
    have hty := own_type (h.vv i hi) hg
    simp
    exact ⟨ty_ne hty h.st.typeP (by decide), ty_ne hty h.st.typeB (by decide)⟩
/-- A look at a part. -/
theorem pa_look {w0 w : World} {p b k : Nat} {fr nb J : Nat → Nat} {RB : Nat → Option Nat} {LS WS : Nat → List Bs} {V : Nat → Value} {s : St} (h : Pa w0 w p b fr nb 3 J RB LS WS V s) (hk : k < 3) :
    Calls Tryd.prog 21 #[.pointer (some ⟨p, 0, none⟩), .int .i64 (fr k : Int), .int .i64 (nb k : Int)] w fun e w' => ∃ v, e = .returned v ∧ w'.ownsRow w.heap.size 9 1 v (LS k).length ((LS k).map strV) ∧ Only [] w w' := by
  have hh := has_of h.geo h.sn hk
  refine (look_of h.st (fr k : Int) (nb k : Int)).mono ?_
  rintro e w' ⟨hb, (⟨hB, _⟩ | ⟨a, c, ha, hc, _, v, l', t', rfl, hsc', hown⟩)⟩
  · rw [isB_has hh] at hB; cases hB
  · obtain rfl : fr k = a := by omega
    obtain rfl : nb k = c := by omega
    obtain ⟨rfl, _⟩ := IsScan.uniq (h.sd k hk).scan hsc'
    exact ⟨v, rfl, hown, Only.of_below hb⟩
theorem Pa.few {w0 w : World} {p b k n : Nat} {fr nb J : Nat → Nat} {RB : Nat → Option Nat} {LS WS : Nat → List Bs} {V : Nat → Value} {s : St} (h : Pa w0 w p b fr nb n J RB LS WS V s) (hk : k < n) : (LS k).length ≤ 2000 := by
  have h1 := frames_count (LS k)
  have h2 := (h.sd k hk).fits
  have h3 := h.n3
  have h4 := (h.geo.has k (by omega)).2
  omega
theorem Pa.mapV {n : Nat} {w0 w : World} {p b k : Nat} {fr nb J : Nat → Nat} {RB : Nat → Option Nat} {LS WS : Nat → List Bs} {V : Nat → Value} {s : St} (h : Pa w0 w p b fr nb n J RB LS WS V s) (hk : k < 3) : RowS w (V k) (WS k) := RowS.of_own (h.vv k hk)
/-- A row of records grows. -/
theorem Pa.grow {w0 w w' : World} {p b k : Nat} {fr nb J : Nat → Nat} {RB : Nat → Option Nat} {LS WS : Nat → List Bs} {V : Nat → Value} {s : St} (h : Pa w0 w p b fr nb 3 J RB LS WS V s) (hk : k < 3) (y : Bs) (v : Value)
    (hown : w'.ownsRow w0.heap.size 9 1 v ((WS k).length + 1) ((WS k).map strV ++ [strV y])) (ho : Only (V k).ownBlock.toList w w') (hat : v.ownBlock = (V k).ownBlock ∨ ∀ g, v.ownBlock = some g → w.heap.size ≤ g) : Pa w0 w' p b fr nb 3 J RB LS (upd WS k (WS k ++ [y])) (upd V k v) s := by
  have hm : ∀ x, x ∈ (V k).ownBlock.toList → (V k).ownBlock = some x := fun x hx => by simpa using hx
  have hty : ∀ x, x ∈ (V k).ownBlock.toList → ∃ cs f, w.heap[x]? = some (.cells cs 9 f) := fun x hx => own_type (h.vv k hk) (hm x hx)
  have hnt : ∀ g t, (∃ cs f, w.heap[g]? = some (.cells cs t f)) → t ≠ 9 → g ∉ (V k).ownBlock.toList := fun g t hg ht hx => ty_ne hg (hty g hx) ht rfl
  have hvb : ∀ i g, i < 3 → i ≠ k → (V i).ownBlock = some g → g ∉ (V k).ownBlock.toList := fun i g hi hik hg hx => h.ww i k hi hk hik g hg (hm g hx)
  have hrb : ∀ i g, i < 3 → RB i = some g → g ∉ (V k).ownBlock.toList := fun i g hi hg hx => h.vr k i hk hi g (hm g hx) hg
  refine { geo := h.geo, n3 := h.n3, pb := h.pb, sn := h.sn, up := h.up, fu := h.fu, sd := h.sd, zz := h.zz, jj := h.jj, rr := h.rr, gj := h.gj, gr := h.gr
           st := h.st.only ho (hnt _ _ h.st.typeP (by decide)) (hnt _ _ h.st.typeB (by decide))
           jn := fun i hi => (h.jn i hi).only ho (hnt _ _ (h.jn i hi).typeJ (by decide)) (fun g hg => hrb i g hi hg)
           vv := fun i hi => ?_, ww := fun i m hi hm2 him g hg e => ?_, vr := fun i m hi hm2 g hg e => ?_
           on := h.on.trans ho (fun x hx => Or.inr ((h.vv k hk).lt x (hm x hx)).1) }
  · by_cases hik : i = k
    · subst hik
      rw [upd_at, upd_at, List.length_append, List.map_append]
      exact hown
    · rw [upd_ne _ _ hik, upd_ne _ _ hik]
      exact own_keep (h.vv i hi) ho (fun g hg => hvb i g hi hik hg)
  · by_cases hik : i = k
    · subst hik
      rw [upd_at] at hg
      rw [upd_ne _ _ (fun e => him e.symm)] at e
      rcases hat with h2 | h2
      · rw [h2] at hg
        exact h.ww i m hi hm2 him g hg e
      · have := h2 g hg
        have := ((h.vv m hm2).lt g e).2
        omega
    · rw [upd_ne _ _ hik] at hg
      by_cases hmk : m = k
      · subst hmk
        rw [upd_at] at e
        rcases hat with h2 | h2
        · rw [h2] at e
          exact h.ww i m hi hm2 him g hg e
        · have := h2 g e
          have := ((h.vv i hi).lt g hg).2
          omega
      · rw [upd_ne _ _ hmk] at e
        exact h.ww i m hi hm2 him g hg e
  · by_cases hik : i = k
    · subst hik
      rw [upd_at] at hg
      rcases hat with h2 | h2
      · rw [h2] at hg
        exact h.vr i m hi hm2 g hg e
      · have := h2 g hg
        have := ty_lt ((h.jn m hm2).typeR e)
        omega
    · rw [upd_ne _ _ hik] at hg
      exact h.vr i m hi hm2 g hg e
end Go.Proofs.YtngcdkbnljoodaaDoor

namespace Go.Proofs.YtngcdkbnljoodaaDoor
set_option linter.unusedVariables false
set_option linter.unusedSimpArgs false
open Go.RowKit Go.ChangeShapes Go.WideShapes

theorem u8_wf {n : Int} (h : (Lit.int .u8 n).wf = true) : 0 ≤ n ∧ n ≤ 255 := by
  simp [Lit.wf, IntKind.min, IntKind.max, IntKind.signed, IntKind.bits] at h
  omega
theorem weightsAll_mem {H : Type} (P : Program) (e : TypeId) : ∀ (ss : List ByteArray) (s : ByteArray), s ∈ ss → s.data.toList.length ∈ DataW.weightsAll (H := H) P e (strs ss)
  | [], _, h => by cases h
  | a :: ss, s, h => by
    show _ ∈ DataW.weights P e (.lit (.string a.data.toList)) ++ DataW.weightsAll P e (strs ss)
    rcases List.mem_cons.1 h with rfl | h
    · exact List.mem_append_left _ (by simp [DataW.weights])
    · exact List.mem_append_right _ (weightsAll_mem P e ss s h)
theorem bytes_string : Tryd.prog.bytesOf 9 = 16 := by kernel_rfl
theorem row_strs {H : Type} {enc : TypeId × Value → H} {W : World} {ts : List TypeId} {ds : List (DataW H)} {j : Nat} {d : DataW H} {p : List MemPlace} {a : Option Addr} {len cap : Nat}
    (hsz : (DataW.weightsEach Tryd.prog ts ds).all (· ≤ reachBytes) = true) (ht : ts[j]? = some 32) (hd : ds[j]? = some d) (h : DataW.Trod enc Tryd.prog W 0 (fun _ => true) true 32 (.slice a len cap) d p) :
    ∃ l : List Bs, RowS W (.slice a len cap) l ∧ l.length * 16 ≤ 140737488351232 ∧ ∀ x ∈ l, x.length ≤ 140737488351232 := by
  obtain ⟨fuel, hf⟩ := h
  rcases open_strings Tryd.underlying32 Tryd.underlying9 (by kernel_rfl) hf with ⟨hcs, hx⟩ | ⟨x, l, c, ss, hcs, _, hl, hm, hz, hx, hcell, hws⟩
  · simp [Value.cells] at hcs
    obtain ⟨rfl, rfl, rfl⟩ := hcs
    exact ⟨[], ⟨none, 0, rfl, fun k x h => by simp at h⟩, by simp, by simp⟩
  · simp [Value.cells] at hcs
    obtain ⟨rfl, rfl, rfl⟩ := hcs
    simp only [Prod.mk.injEq] at hx
    obtain ⟨rfl, rfl⟩ := hx
    simp only [if_true] at hz
    have htk : (ss.take len).length = len := by rw [List.length_take]; omega
    refine ⟨(ss.take len).map (fun s => s.data.toList), ⟨some x, cap, by rw [List.length_map, htk], fun k y hk => ⟨x, rfl, ?_⟩⟩, ?_, ?_⟩
    · rw [List.getElem?_map, Option.map_eq_some_iff] at hk
      obtain ⟨s, hs, rfl⟩ := hk
      have hkl : k < (ss.take len).length := (List.getElem?_eq_some_iff.1 hs).1
      have hks : k < ss.length := by rw [List.length_take] at hkl; omega
      rw [List.getElem?_take_of_lt (by omega)] at hs
      rw [hcell k hks, List.getD_eq_getElem?_getD, hs, strV, mkS_list]
      rfl
    · have h1 := sized_slice hsz ht hd Tryd.underlying32
      rw [bytes_string] at h1
      simp only [strs, List.length_map, reachBytes] at h1
      rw [List.length_map, htk]
      rw [htk] at h1
      omega
    · intro y hy
      obtain ⟨s, hs, rfl⟩ := List.mem_map.1 hy
      have h2 := List.all_eq_true.1 hsz _ (DataW.weights_mem_each ht hd s.data.toList.length (by
        rw [DataW.weights, Tryd.underlying32]
        exact List.mem_cons_of_mem _ (List.mem_append_left _ (weightsAll_mem _ _ _ _ hs))))
      exact of_decide_eq_true h2
end Go.Proofs.YtngcdkbnljoodaaDoor

