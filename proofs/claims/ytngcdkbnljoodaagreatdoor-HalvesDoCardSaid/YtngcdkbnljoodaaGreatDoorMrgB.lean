/- Same and block: what the journal's laws use of the references. No conditions beyond those typed. A store with a journal: Open, Append, Room, Records in one predicate. No conditions beyond those typed. awake, the journal's law's: it answers true. No conditions beyond those typed. JournalSure's walk. No conditions beyond those typed. JournalAgain's walk: its parts. No conditions beyond those typed. JournalParts' walk: its parts. No conditions beyond those typed. Journals of three parts of a store, side by side. No conditions beyond those typed. A slice of strings among a law's arguments, as a row of bytes; a byte's bounds. No conditions beyond those typed. -/
import Derived.Test.YtngcdkbnljoodaaGreatDoorMrgN
import Derived.SliceStrings
import Derived.SizedLaws
namespace Go.Proofs.YtngcdkbnljoodaaGreatDoor
set_option linter.unusedVariables false
set_option linter.unusedSimpArgs false
open Go.RowKit Go.Proofs.YtngcdkbnljoodaaGreatDoorW.PrintWords

/-- A row of strings, to be read. -/
def RowS (w : World) (v : Value) (l : List Bs) : Prop := ∃ a cap, v = .slice a l.length cap ∧ ∀ k x, l[k]? = some x → ∃ p, a = some p ∧ w.cell? (p.add k) = some (strV x)
theorem addr_add0 (g k : Nat) : (⟨g, 0, none⟩ : Addr).add k = ⟨g, k, none⟩ := by unfold Addr.add; cases k <;> simp
theorem RowS.of_own {w : World} {base : Nat} {v : Value} {l : List Bs} (h : w.ownsRow base 9 1 v l.length (l.map strV)) : RowS w v l := by
  rcases own_cells h with ⟨rfl, rfl⟩ | ⟨g, cap, rfl, hg, hc⟩
  · exact ⟨none, 0, rfl, fun k x h => by simp at h⟩
  · exact ⟨_, cap, rfl, fun k x h => ⟨_, rfl, by rw [addr_add0]; exact hc k x h⟩⟩
theorem same_bytes (a b : Bs) : ((mkS a).toList == (mkS b).toList) = decide (a = b) := by
  rw [ByteArray.toList_eq, ByteArray.toList_eq, list_mkS, list_mkS]
  rw [Bool.eq_iff_iff]
  simp
set_option maxHeartbeats 2000000 in
theorem Same_of {w : World} {v u : Value} {l m : List Bs} (hv : RowS w v l) (hu : RowS w u m) (hl : l.length ≤ 9000000000000000000) :
    Calls Tryz.prog 28 #[v, u] w fun e w' => e = .returned (.bool (decide (l = m))) ∧ ∃ k, w' = w.drewN k := by
  obtain ⟨a, ca, rfl, ha⟩ := hv
  obtain ⟨b, cb, rfl, hb⟩ := hu
  by_cases hne : l.length = m.length
  · obtain ⟨L, hL⟩ : ∃ L, L = l.length := ⟨_, rfl⟩
    have hM : m.length = L := by omega
    rw [← hL] at hl ⊢
    rw [hM]
    have HL := Lib.hid hL
    have HM := Lib.hid hM
    have HA := Lib.hid ha
    have HB := Lib.hid hb
    clear hne ha hb hL hM
    go_enter Tryz.func28, Tryz.ntmps28
    go_wp2
    go_loopw [5] (fun i wr => ∃ k : Nat, k ≤ L ∧ i = .int .i64 (k : Int) ∧ Hid (∀ j, j < k → l[j]? = m[j]?) ∧ ∃ d, wr = w.drewN d) (fun i _ => L - (intOf i).toNat)
    case atStart => exact ⟨0, Nat.zero_le _, rfl, Lib.hid (fun j hj => absurd hj (Nat.not_lt_zero j)), 0, rfl⟩
    case round =>
      obtain ⟨k, hk, rfl, HS, d, rfl⟩ := hrel
      by_cases hkL : k < L
      · obtain ⟨x, hx⟩ : ∃ x, l[k]? = some x := ⟨_, List.getElem?_eq_getElem (by have := HL.out; omega)⟩
        obtain ⟨y, hy⟩ : ∃ y, m[k]? = some y := ⟨_, List.getElem?_eq_getElem (by have := HM.out; omega)⟩
        obtain ⟨p, rfl, hcx⟩ := HA.out k x hx
        obtain ⟨q, rfl, hcy⟩ := HB.out k y hy
        have hs := same_bytes x y
        have HX := Lib.hid hx
        have HY := Lib.hid hy
        have hc1 : ((k : Int) < (L : Int)) := by omega
        have hc0 : (0 : Int) ≤ (k : Int) := by omega
        have hwr : IntKind.i64.wrap ((k : Int) + 1) = (k : Int) + 1 := IntWalk.i64_in _ (by omega)
        unfold strV at hcx hcy
        by_cases hxy : x = y
        · rw [decide_eq_true hxy] at hs
          have HXY := Lib.hid hxy
          clear hx hy hxy
          go_wp2
          go_quiet (fail)
          go_wp2
          go_roundw
          case rel =>
            refine ⟨k + 1, by omega, rfl, Lib.hid (fun j hj => ?_), _, rfl⟩
            rcases Nat.lt_succ_iff_lt_or_eq.1 hj with h | h
            · exact HS.out j h
            · rw [h, HX.out, HY.out, HXY.out]
          case measure => simp [intOf]; omega
        · rw [decide_eq_false hxy] at hs
          have hlm : l ≠ m := fun e => hxy (by rw [e, hy] at hx; exact (Option.some.inj hx).symm)
          have HLM := Lib.hid hlm
          clear hx hy hxy hlm
          go_wp2
          go_quiet (fail)
          go_wp2
          go_ret
          exact ⟨by rw [decide_eq_false HLM.out]; rfl, _, World.drewN_drewN _ _ _⟩
      · have hkk : k = L := by omega
        subst hkk
        have hlm : l = m := by
          apply List.ext_getElem?
          intro j
          rcases Nat.lt_or_ge j k with h | h
          · exact HS.out j h
          · rw [List.getElem?_eq_none (by have := HL.out; omega), List.getElem?_eq_none (by have := HM.out; omega)]
        have HLM := Lib.hid hlm
        clear hlm hkL
        go_wp2
        go_ret
        exact ⟨by rw [decide_eq_true HLM.out]; rfl, _, rfl⟩
  · have hb1 : ((l.length : Int) != (m.length : Int)) = true := by rw [bne_iff_ne]; omega
    have hb2 : (l.length == m.length) = false := by rw [beq_eq_false_iff_ne]; exact hne
    have hlm : l ≠ m := fun e => hne (by rw [e])
    have HLM := Lib.hid hlm
    clear hne ha hb hlm
    go_enter Tryz.func28, Tryz.ntmps28
    go_wp2
    go_ret
    exact ⟨by rw [decide_eq_false HLM.out]; rfl, 0, rfl⟩
end Go.Proofs.YtngcdkbnljoodaaGreatDoor

namespace Go.Proofs.YtngcdkbnljoodaaGreatDoor
set_option linter.unusedVariables false
set_option linter.unusedSimpArgs false
open Go.RowKit Go.Proofs.YtngcdkbnljoodaaGreatDoorW.PrintWords

/-- A store that is up, and a journal of a part of it. -/
structure Live (w : World) (p b j : Nat) (rb : Option Nat) (s : St) (pf nb : Nat) (l : List Bs) : Prop where
  st : StoreIs w p b s
  jn : JnIs w j rb p pf nb l (frames l).length false
  sd : Sound s pf nb l
  up : s.down = false
theorem Live.only {S : List Nat} {w w' : World} {p b j pf nb : Nat} {rb : Option Nat} {s : St} {l : List Bs} (h : Live w p b j rb s pf nb l) (ho : Only S w w') (h1 : p ∉ S) (h2 : b ∉ S) (h3 : j ∉ S) (h4 : ∀ g, rb = some g → g ∉ S) : Live w' p b j rb s pf nb l :=
  ⟨h.st.only ho h1 h2, h.jn.only ho h3 h4, h.sd, h.up⟩
theorem RowS.only {S : List Nat} {w w' : World} {base : Nat} {v : Value} {l : List Bs} (h : w.ownsRow base 9 1 v l.length (l.map strV)) (ho : Only S w w') (hS : ∀ g, v.ownBlock = some g → g ∉ S) : RowS w' v l := RowS.of_own (own_keep h ho hS)
/-- What an opened store is. -/
def OpenPost (p b pf nb : Nat) (s : St) (l : List Bs) (w : World) (e : Ending) (w' : World) : Prop :=
  ∃ (s' : St) (j : Nat) (rb : Option Nat) (v : Value), e = .returned (.tuple #[.pointer (some ⟨j, 0, none⟩), v, .int .i64 0]) ∧ Live w' p b j rb s' pf nb l ∧ s'.fuse = -1 ∧ (∃ P, P.length = 32 * nb ∧ Turned s s' pf nb P) ∧
    w.heap.size ≤ j ∧ (∀ g, rb = some g → w.heap.size ≤ g) ∧ w'.ownsRow w.heap.size 9 1 v l.length (l.map strV) ∧ (∀ g, v.ownBlock = some g → rb ≠ some g) ∧ Only [p, b] w w'
/-- What an append to a live journal that has room does. -/
def GoPost (p b j : Nat) (rb : Option Nat) (s : St) (pf nb : Nat) (l : List Bs) (r : Bs) (w : World) (e : Ending) (w' : World) : Prop :=
  ∃ s' P, P.length = 32 * nb ∧ Turned s s' pf nb P ∧ Only ([p, b] ++ (j :: rb.toList)) w w' ∧
    ((e = .returned (.int .i64 0) ∧ ∃ rb', (∀ g, rb' = some g → rb = some g ∨ w.heap.size ≤ g) ∧ Live w' p b j rb' s' pf nb (l ++ [r]) ∧ (s.fuse = -1 → s'.fuse = -1)) ∨
      (e = .returned (.int .i64 16) ∧ s.fuse ≠ -1 ∧ StoreIs w' p b s' ∧ JnIs w' j rb p pf nb l (frames l).length true ∧ ∃ m t, (m = l ∨ m = l ++ [r]) ∧ IsScan (partB s' pf nb) m t))
theorem new_up (n : Nat) (h1 : 1 ≤ n) (h2 : n ≤ 256) (w : World) :
    Calls Tryz.prog 5 #[.int .i64 (n : Int)] w fun e w' => e = .returned (.tuple #[.pointer (some ⟨w.heap.size + 1, 0, none⟩), .int .i64 0]) ∧ StoreIs w' (w.heap.size + 1) w.heap.size (St.new n) ∧ Only [] w w' := by
  refine (new_of (n : Int) w).mono ?_
  rintro e w' ⟨hb, (⟨h, _⟩ | ⟨_, rfl, hs⟩)⟩
  · omega
  · exact ⟨rfl, hs, Only.of_below hb⟩
/-- An append while no fuse burns. -/
def SurePost (p b j : Nat) (rb : Option Nat) (s : St) (pf nb : Nat) (l : List Bs) (r : Bs) (w : World) (e : Ending) (w' : World) : Prop :=
  e = .returned (.int .i64 0) ∧ ∃ s' P rb', P.length = 32 * nb ∧ Turned s s' pf nb P ∧ Only ([p, b] ++ (j :: rb.toList)) w w' ∧ (∀ g, rb' = some g → rb = some g ∨ w.heap.size ≤ g) ∧ Live w' p b j rb' s' pf nb (l ++ [r]) ∧ s'.fuse = -1
/-- An append whose first write is cut off. -/
def TornPost (p b j : Nat) (rb : Option Nat) (s : St) (pf nb : Nat) (l : List Bs) (r : Bs) (w : World) (e : Ending) (w' : World) : Prop :=
  e = .returned (.int .i64 16) ∧ ∃ s' P m t, P.length = 32 * nb ∧ Turned s s' pf nb P ∧ Only ([p, b] ++ (j :: rb.toList)) w w' ∧ StoreIs w' p b s' ∧ JnIs w' j rb p pf nb l (frames l).length true ∧ (m = l ∨ m = l ++ [r]) ∧ IsScan (partB s' pf nb) m t
end Go.Proofs.YtngcdkbnljoodaaGreatDoor

namespace Go.Proofs.YtngcdkbnljoodaaGreatDoor
set_option linter.unusedVariables false
set_option linter.unusedSimpArgs false
open Go.RowKit Go.Proofs.YtngcdkbnljoodaaGreatDoorW.PrintWords

theorem Same_eq {w : World} {v u : Value} {l : List Bs} (hv : RowS w v l) (hu : RowS w u l) (hl : l.length ≤ 1000000) :
    Calls Tryz.prog 28 #[v, u] w fun e w' => e = .returned (.bool true) ∧ Only [] w w' := by
  refine (Same_of hv hu (by omega)).mono ?_
  rintro e w' ⟨rfl, d, rfl⟩
  exact ⟨by rw [decide_eq_true rfl], (Only.refl _ _).drewN d⟩
/-- A journal's blocks are none of the store's. -/
theorem JnIs.away {w : World} {j p b pf nb fin q : Nat} {rb : Option Nat} {l : List Bs} {o : Bool} {s : St} (h : JnIs w j rb q pf nb l fin o) (hs : StoreIs w p b s) :
    (j ≠ p ∧ j ≠ b) ∧ (∀ g, rb = some g → g ≠ p ∧ g ≠ b) ∧ j < w.heap.size ∧ ∀ g, rb = some g → g < w.heap.size := by
  obtain ⟨v, hv, hown, hr⟩ := h.ex
  obtain ⟨_, _, ⟨wr, z3⟩, z4⟩ := hs
  refine ⟨⟨blk_ne hv z3 (by decide), blk_ne hv z4 (by decide)⟩, fun g hg => ?_, blk_lt hv, fun g hg => (hown.lt g (hr.trans hg)).2⟩
  obtain ⟨cells, hc⟩ := own_typed hown g (hr.trans hg)
  exact ⟨(fun e => by rw [e, z3] at hc; cases hc), (fun e => by rw [e, z4] at hc; cases hc)⟩
theorem own_away {w : World} {p b base n j q pf nb fin : Nat} {rb : Option Nat} {ls : List Bs} {o : Bool} {v : Value} {xs : List Value} {s : St} (h : w.ownsRow base 9 1 v n xs) (hs : StoreIs w p b s) (hj : JnIs w j rb q pf nb ls fin o) : ∀ g, v.ownBlock = some g → g ≠ p ∧ g ≠ b ∧ g ≠ j := fun g hg => by
  obtain ⟨_, _, ⟨wr, z3⟩, z4⟩ := hs
  obtain ⟨v, hv, _⟩ := hj.ex
  obtain ⟨cells, hc⟩ := own_typed h g hg
  exact ⟨(fun e => by rw [e, z3] at hc; cases hc), (fun e => by rw [e, z4] at hc; cases hc), (fun e => by rw [e, hv] at hc; cases hc)⟩
end Go.Proofs.YtngcdkbnljoodaaGreatDoor

namespace Go.Proofs.YtngcdkbnljoodaaGreatDoor
set_option linter.unusedVariables false
set_option linter.unusedSimpArgs false
open Go.RowKit Go.Proofs.YtngcdkbnljoodaaGreatDoorW.PrintWords

def sumL (l : List Bs) : Nat := l.foldr (fun x n => x.length + n) 0
theorem sumL_snoc (l : List Bs) (x : Bs) : sumL (l ++ [x]) = sumL l + x.length := by
  induction l with
  | nil => simp [sumL]
  | cons a l ih => simp [sumL] at ih ⊢; omega
theorem sumL_take (l : List Bs) (k : Nat) (x : Bs) (h : l[k]? = some x) : sumL (l.take (k + 1)) = sumL (l.take k) + x.length := by
  rw [List.take_add_one, h]
  exact sumL_snoc _ _
theorem row_keep {w w' : World} {a : Option Addr} {l : List Bs} (hc : ∀ k x, l[k]? = some x → ∃ p, a = some p ∧ w.cell? (p.add k) = some (strV x)) (ho : Only [] w w') : ∀ k x, l[k]? = some x → ∃ p, a = some p ∧ w'.cell? (p.add k) = some (strV x) := fun k x hx => by
  obtain ⟨p, hp, hq⟩ := hc k x hx
  refine ⟨p, hp, ?_⟩
  have hlt : (p.add k).block < w.heap.size := by
    rcases Nat.lt_or_ge (p.add k).block w.heap.size with h | h
    · exact h
    · unfold World.cell? at hq
      rw [Array.getElem?_eq_none h] at hq
      simp at hq
  exact (World.cell?_of_block (ho.block _ hlt (by simp))).trans hq
theorem RowS.keep {w w' : World} {v : Value} {l : List Bs} (h : RowS w v l) (ho : Only [] w w') : RowS w' v l := by
  obtain ⟨a, c, rfl, hc⟩ := h
  refine ⟨a, c, rfl, fun k x hx => ?_⟩
  obtain ⟨p, hp, hq⟩ := hc k x hx
  refine ⟨p, hp, ?_⟩
  have hlt : (p.add k).block < w.heap.size := by
    rcases Nat.lt_or_ge (p.add k).block w.heap.size with h | h
    · exact h
    · unfold World.cell? at hq
      rw [Array.getElem?_eq_none h] at hq
      simp at hq
  exact (World.cell?_of_block (ho.block _ hlt (by simp))).trans hq
/-- The store, the journal and the row of what is sure, within the loop. -/
def SureIn (w0 wr : World) (p b j nb : Nat) (u : Value) (ls : List Bs) : Prop :=
  ∃ rb s, Live wr p b j rb s 0 nb ls ∧ s.n = nb ∧ wr.ownsRow w0.heap.size 9 1 u ls.length (ls.map strV) ∧ (∀ g, u.ownBlock = some g → rb ≠ some g) ∧ (∀ g, rb = some g → w0.heap.size ≤ g) ∧ Only [] w0 wr ∧ u ≠ .slice none 0 0
theorem SureIn.only {w0 w w' : World} {p b j nb : Nat} {u : Value} {ls : List Bs} (h : SureIn w0 w p b j nb u ls) (ho : Only [] w w') : SureIn w0 w' p b j nb u ls := by
  obtain ⟨rb, s, hl, hn, hu, hne, hrb, ho', hz⟩ := h
  exact ⟨rb, s, hl.only ho (by simp) (by simp) (by simp) (by simp), hn, own_keep hu ho (by simp), hne, hrb, ho'.tr ho, hz⟩
/-- One append within the loop: what is sure stays, or grows, or the power goes. -/
def SureStep (w0 : World) (p b j nb : Nat) (u : Value) (ls : List Bs) (y : Bs) (e : Ending) (w' : World) : Prop :=
  (∃ c : Int, e = .returned (.int .i64 c) ∧ c ≠ 0 ∧ c ≠ 16 ∧ SureIn w0 w' p b j nb u ls) ∨
    (e = .returned (.int .i64 0) ∧ ∃ rb s, Live w' p b j rb s 0 nb (ls ++ [y]) ∧ s.n = nb ∧ w'.ownsRow w0.heap.size 9 1 u ls.length (ls.map strV) ∧ (∀ g, u.ownBlock = some g → rb ≠ some g) ∧ (∀ g, rb = some g → w0.heap.size ≤ g) ∧ Only [] w0 w') ∨
    (e = .returned (.int .i64 16) ∧ y ≠ [] ∧ ∃ s m t, StoreIs w' p b s ∧ s.n = nb ∧ IsScan (partB s 0 nb) m t ∧ (m = ls ∨ m = ls ++ [y]) ∧ w'.ownsRow w0.heap.size 9 1 u ls.length (ls.map strV) ∧ Only [] w0 w')
theorem own_empty (w : World) (t : TypeId) (base : Nat) (h : base ≤ w.heap.size) : (w.alloc (.cells #[] t)).ownsRow base t 1 (.slice (some ⟨w.heap.size, 0, none⟩) 0 0) 0 [] :=
  ⟨rfl, Or.inr ⟨w.heap.size, 0, #[], rfl, h, blk_new w _, Nat.le_refl _, Nat.zero_le _, rfl, rfl⟩⟩
theorem SureIn.empty {w0 w : World} {p b j nb : Nat} {rb : Option Nat} {s : St} (hl : Live w p b j rb s 0 nb []) (hn : s.n = nb) (hrb : ∀ g, rb = some g → w0.heap.size ≤ g) (ho : Only [] w0 w) : SureIn w0 (w.alloc (.cells #[] 9)) p b j nb (.slice (some ⟨w.heap.size, 0, none⟩) 0 0) [] := by
  have ha := (Only.refl [] w).alloc (.cells #[] 9)
  have haw := hl.jn.away hl.st
  exact ⟨rb, s, hl.only ha (by simp) (by simp) (by simp) (by simp), hn, own_empty w _ _ ho.size, fun g hg e => by cases hg; exact absurd (haw.2.2.2 _ e) (Nat.lt_irrefl _), hrb, ho.tr ha, by intro h; cases h⟩
/-- And behind it. -/
def SureOut (w0 wc : World) (p b nb : Nat) (u : Value) (un : Value) : Prop :=
  ∃ (s : St) (ls m : List Bs) (t y : Bs), StoreIs wc p b s ∧ s.n = nb ∧ IsScan (partB s 0 nb) m t ∧ wc.ownsRow w0.heap.size 9 1 u ls.length (ls.map strV) ∧ un = strV y ∧ (m = ls ∨ (y ≠ [] ∧ m = ls ++ [y])) ∧ (frames m).length ≤ 3160 ∧ ls.length ≤ 20 ∧ Only [] w0 wc ∧ u ≠ .slice none 0 0
theorem SureOut.torn {w0 w : World} {p b nb : Nat} {u : Value} {s : St} {ls m : List Bs} {t y : Bs} (hs : StoreIs w p b s) (hn : s.n = nb) (hsc : IsScan (partB s 0 nb) m t) (hu : w.ownsRow w0.heap.size 9 1 u ls.length (ls.map strV)) (hm : m = ls ∨ m = ls ++ [y]) (hy : y ≠ [])
    (h1 : (frames ls).length ≤ 3160) (h2 : (frames (ls ++ [y])).length ≤ 3160) (h3 : ls.length ≤ 20) (ho : Only [] w0 w) (hz : u ≠ .slice none 0 0) : SureOut w0 w p b nb u (.string (mkS y)) :=
  ⟨s, ls, m, t, y, hs, hn, hsc, hu, rfl, by rcases hm with h | h; exact Or.inl h; exact Or.inr ⟨hy, h⟩, by rcases hm with h | h <;> rw [h] <;> assumption, h3, ho, hz⟩
theorem SureIn.grown {w0 w w' : World} {p b j nb : Nat} {rb : Option Nat} {s : St} {u v : Value} {ls : List Bs} {y : Bs} (hl : Live w p b j rb s 0 nb (ls ++ [y])) (hn : s.n = nb) (hu : w.ownsRow w0.heap.size 9 1 u ls.length (ls.map strV)) (hne : ∀ g, u.ownBlock = some g → rb ≠ some g)
    (hrb : ∀ g, rb = some g → w0.heap.size ≤ g) (ho : Only [] w0 w) (o : Obj) (hown : w'.ownsRow w0.heap.size 9 1 v (ls.length + 1) (ls.map strV ++ [strV y])) (hg : (w.alloc o).grownBy w' u.ownBlock) (hat : v.ownBlock = u.ownBlock ∨ v.ownBlock = some (w.heap.size + 1)) (hnil : v ≠ .slice none 0 0) :
    SureIn w0 w' p b j nb v (ls ++ [y]) := by
  have haw := hl.jn.away hl.st
  have hua := own_away hu hl.st hl.jn
  have hO : Only u.ownBlock.toList w w' := ((Only.refl _ w).alloc o).grown hg (fun k hk => Or.inl (by rw [hk]; simp))
  have hm : ∀ x, x ∈ u.ownBlock.toList → u.ownBlock = some x := fun x hx => by simpa using hx
  refine ⟨rb, s, hl.only hO (fun hx => (hua p (hm p hx)).1 rfl) (fun hx => (hua b (hm b hx)).2.1 rfl) (fun hx => (hua j (hm j hx)).2.2 rfl) (fun g hg hx => hne g (hm g hx) hg), hn, by rw [List.length_append, List.map_append]; exact hown, fun g hg2 e => ?_, hrb, ho.trans hO (fun x hx => Or.inr (hu.lt x (hm x hx)).1), hnil⟩
  rcases hat with h | h
  · exact hne g (h ▸ hg2) e
  · rw [h] at hg2
    cases hg2
    have := haw.2.2.2 _ e
    omega
def goesOn : Bs := [103, 111, 101, 115, 32, 111, 110]
theorem grown_new {w w' : World} {o : Obj} {row : Option Nat} (hg : (w.alloc o).grownBy w' row) (hr : ∀ g, row = some g → w.heap.size ≤ g) : Only [] w w' :=
  ((Only.refl [] w).alloc o).grown hg (fun k hk => Or.inr (hr k hk))
theorem SureIn.out {w0 w : World} {p b j nb : Nat} {u : Value} {ls : List Bs} (h : SureIn w0 w p b j nb u ls) (h1 : (frames ls).length ≤ 3160) (h2 : ls.length ≤ 20) : SureOut w0 w p b nb u (.string ByteArray.empty) := by
  obtain ⟨rb, s, hl, hn, hu, hne, hrb, ho, hz⟩ := h
  exact ⟨s, ls, ls, _, [], hl.st, hn, hl.sd.scan, hu, rfl, Or.inl rfl, h1, h2, ho, hz⟩
end Go.Proofs.YtngcdkbnljoodaaGreatDoor

namespace Go.Proofs.YtngcdkbnljoodaaGreatDoor
set_option linter.unusedVariables false
set_option linter.unusedSimpArgs false
open Go.RowKit Go.Proofs.YtngcdkbnljoodaaGreatDoorW.PrintWords

/-- The journal while records are appended and no fuse burns. -/
def AgIn (w0 wr : World) (p b j nb B : Nat) : Prop :=
  ∃ rb s ls, Live wr p b j rb s 0 nb ls ∧ s.n = nb ∧ s.fuse = -1 ∧ (frames ls).length ≤ B ∧ (∀ g, rb = some g → w0.heap.size ≤ g) ∧ Only [] w0 wr
theorem AgIn.on {w0 w : World} {p b j nb B : Nat} (h : AgIn w0 w p b j nb B) : Only [] w0 w := by
  obtain ⟨_, _, _, _, _, _, _, _, ho⟩ := h
  exact ho
/-- The store while its blocks are written anew. -/
def AgW (w0 wr : World) (p b nb : Nat) (N O : Bs) (i : Nat) : Prop :=
  ∃ s : St, StoreIs wr p b s ∧ s.n = nb ∧ s.down = false ∧ s.fuse = -1 ∧ s.bs = N.take (32 * i) ++ O.drop (32 * i) ∧ Only [] w0 wr
theorem AgW.only {w0 w w' : World} {p b nb i : Nat} {N O : Bs} (h : AgW w0 w p b nb N O i) (ho : Only [] w w') : AgW w0 w' p b nb N O i := by
  obtain ⟨s, hs, hn, hd, hf, hbs, ho'⟩ := h
  exact ⟨s, hs.only ho (by simp) (by simp), hn, hd, hf, hbs, ho'.tr ho⟩
end Go.Proofs.YtngcdkbnljoodaaGreatDoor

namespace Go.Proofs.YtngcdkbnljoodaaGreatDoor
set_option linter.unusedVariables false
set_option linter.unusedSimpArgs false
open Go.RowKit Go.Proofs.YtngcdkbnljoodaaGreatDoorW.PrintWords

/-- Another part's bytes stay. -/
theorem Turned.other {s s' : St} {pf nb pf2 nb2 : Nat} {P : Bs} (hs : s.Wf) (h : s.Has pf nb) (hP : P.length = 32 * nb) (t : Turned s s' pf nb P) (h2 : s.Has pf2 nb2) (hd : pf2 + nb2 ≤ pf ∨ pf + nb ≤ pf2) : partB s' pf2 nb2 = partB s pf2 nb2 := by
  have hlen := hs.len
  have hh := h.2
  have hh2 := h2.2
  have hl : (s.bs.take (32 * pf)).length = 32 * pf := by rw [List.length_take]; omega
  unfold partB
  rw [t.bs]
  rcases hd with hd | hd
  · rw [List.append_assoc, List.drop_append_of_le_length (by omega), List.take_append_of_le_length (by rw [List.length_drop]; omega), List.drop_take, List.take_take, Nat.min_eq_left (by omega)]
  · rw [List.drop_append, List.drop_of_length_le (by rw [List.length_append]; omega), List.nil_append, List.length_append, hl, hP, List.drop_drop]
    congr 2
    omega
theorem Sound.other {s s' : St} {pf nb pf2 nb2 : Nat} {P : Bs} {l : List Bs} (h : s.Has pf nb) (hP : P.length = 32 * nb) (t : Turned s s' pf nb P) (h2 : Sound s pf2 nb2 l) (hd : pf2 + nb2 ≤ pf ∨ pf + nb ≤ pf2) : Sound s' pf2 nb2 l :=
  ⟨t.wf, ⟨h2.has.1, by rw [t.n]; exact h2.has.2⟩, h2.ok, h2.fits, by rw [t.other h2.wf h hP h2.has hd]; exact h2.eq⟩
end Go.Proofs.YtngcdkbnljoodaaGreatDoor

namespace Go.Proofs.YtngcdkbnljoodaaGreatDoor
set_option linter.unusedVariables false
set_option linter.unusedSimpArgs false
open Go.RowKit Go.Proofs.YtngcdkbnljoodaaGreatDoorW.PrintWords

def upd {A : Type} (f : Nat → A) (k : Nat) (v : A) : Nat → A := fun i => if i = k then v else f i
theorem upd_at {A : Type} (f : Nat → A) (k : Nat) (v : A) : upd f k v k = v := if_pos rfl
theorem upd_ne {A : Type} (f : Nat → A) {i k : Nat} (v : A) (h : i ≠ k) : upd f k v i = f i := if_neg h
/-- A type of which the journal turns nothing. -/
def ArrT (t : TypeId) : Prop := t ≠ 54 ∧ t ≠ 88 ∧ t ≠ 107 ∧ t ≠ 9
/-- What is of no such type stays. -/
def KeepA (w w' : World) : Prop := ∀ (g : Nat) (cs : Array Value) (t : TypeId) (f : Nat × Nat), ArrT t → w.heap[g]? = some (.cells cs t f) → w'.heap[g]? = some (.cells cs t f)
theorem KeepA.trans {a b c : World} (h : KeepA a b) (k : KeepA b c) : KeepA a c := fun g cs t f ht hg => k g cs t f ht (h g cs t f ht hg)
theorem notArr_string : ¬ ArrT 9 := fun h => h.2.2.2 rfl
theorem notArr_jn : ¬ ArrT 107 := fun h => h.2.2.1 rfl
/-- The three parts of a store of 60 blocks. -/
structure Geo (fr nb : Nat → Nat) : Prop where
  ne : ∀ i k, i < 3 → k < 3 → i ≠ k → fr i + nb i ≤ fr k ∨ fr k + nb k ≤ fr i
  has : ∀ k, k < 3 → 1 ≤ nb k ∧ fr k + nb k ≤ 60
/-- The store, the first n parts' journals, and three rows of records. -/
structure Pa (w0 w : World) (p b : Nat) (fr nb : Nat → Nat) (n : Nat) (J : Nat → Nat) (RB : Nat → Option Nat) (LS WS : Nat → List Bs) (V : Nat → Value) (s : St) : Prop where
  geo : Geo fr nb
  n3 : n ≤ 3
  pb : w0.heap.size ≤ p ∧ w0.heap.size ≤ b
  st : StoreIs w p b s
  sn : s.n = 60
  up : s.down = false
  fu : s.fuse = -1
  jn : ∀ k, k < n → JnIs w (J k) (RB k) p (fr k) (nb k) (LS k) (frames (LS k)).length false
  sd : ∀ k, k < n → Sound s (fr k) (nb k) (LS k)
  zz : ∀ k, n ≤ k → k < 3 → partB s (fr k) (nb k) = zs (32 * nb k) ∧ LS k = []
  jj : ∀ i k, i < n → k < n → i ≠ k → J i ≠ J k
  rr : ∀ i k, i < n → k < n → i ≠ k → ∀ g, RB i = some g → RB k ≠ some g
  vv : ∀ k, k < 3 → w.ownsRow w0.heap.size 9 1 (V k) (WS k).length ((WS k).map strV)
  ww : ∀ i k, i < 3 → k < 3 → i ≠ k → ∀ g, (V i).ownBlock = some g → (V k).ownBlock ≠ some g
  vr : ∀ i k, i < 3 → k < n → ∀ g, (V i).ownBlock = some g → RB k ≠ some g
  gj : ∀ k, k < n → w0.heap.size ≤ J k
  gr : ∀ k, k < n → ∀ g, RB k = some g → w0.heap.size ≤ g
  on : Only [] w0 w
theorem Pa.live {w0 w : World} {p b n : Nat} {fr nb J : Nat → Nat} {RB : Nat → Option Nat} {LS WS : Nat → List Bs} {V : Nat → Value} {s : St} (h : Pa w0 w p b fr nb n J RB LS WS V s) {k : Nat} (hk : k < n) : Live w p b (J k) (RB k) s (fr k) (nb k) (LS k) :=
  ⟨h.st, h.jn k hk, h.sd k hk, h.up⟩
theorem own_type {w : World} {base n : Nat} {v : Value} {xs : List Value} (h : w.ownsRow base 9 1 v n xs) {g : Nat} (hg : v.ownBlock = some g) : ∃ cs f, w.heap[g]? = some (.cells cs 9 f) := by
  obtain ⟨cells, hc⟩ := own_typed h g hg
  exact ⟨_, _, hc⟩
theorem JnIs.typeJ {w : World} {j p pf nb fin : Nat} {rb : Option Nat} {l : List Bs} {o : Bool} (h : JnIs w j rb p pf nb l fin o) : ∃ cs f, w.heap[j]? = some (.cells cs 107 f) := by
  obtain ⟨v, hv, _⟩ := h.ex
  exact ⟨_, _, hv⟩
theorem JnIs.typeR {w : World} {j p pf nb fin : Nat} {rb : Option Nat} {l : List Bs} {o : Bool} (h : JnIs w j rb p pf nb l fin o) {g : Nat} (hg : rb = some g) : ∃ cs f, w.heap[g]? = some (.cells cs 9 f) := by
  obtain ⟨v, hv, hown, hr⟩ := h.ex
  exact own_type hown (hr.trans hg)
theorem StoreIs.typeP {w : World} {p b : Nat} {s : St} (h : StoreIs w p b s) : ∃ cs f, w.heap[p]? = some (.cells cs 54 f) := by
  obtain ⟨_, _, ⟨wr, z⟩, _⟩ := h
  exact ⟨_, _, z⟩
theorem StoreIs.typeB {w : World} {p b : Nat} {s : St} (h : StoreIs w p b s) : ∃ cs f, w.heap[b]? = some (.cells cs 88 f) := ⟨_, _, h.row⟩
theorem ty_ne {w : World} {g k : Nat} {t u : TypeId} (h : ∃ cs f, w.heap[g]? = some (.cells cs t f)) (h2 : ∃ cs f, w.heap[k]? = some (.cells cs u f)) (hn : t ≠ u) : g ≠ k := by
  rintro rfl
  obtain ⟨cs, f, h⟩ := h
  obtain ⟨cs2, f2, h2⟩ := h2
  rw [h] at h2
  cases h2
  exact hn rfl
theorem ty_lt {w : World} {g : Nat} {t : TypeId} (h : ∃ cs f, w.heap[g]? = some (.cells cs t f)) : g < w.heap.size := by
  obtain ⟨cs, f, h⟩ := h
  exact blk_lt h
theorem ty_not {w : World} {g : Nat} {t : TypeId} {S : List Nat} (h : ∃ cs f, w.heap[g]? = some (.cells cs t f)) (hS : ∀ g, g ∈ S → ∃ cs u f, w.heap[g]? = some (.cells cs u f) ∧ u ≠ t) : g ∉ S := fun hm => by
  obtain ⟨cs, u, f, h1, h2⟩ := hS g hm
  obtain ⟨cs2, f2, h⟩ := h
  rw [h] at h1
  cases h1
  exact h2 rfl
/-- All stays but for blocks of other types. -/
theorem Pa.only {S : List Nat} {w0 w w' : World} {p b n : Nat} {fr nb J : Nat → Nat} {RB : Nat → Option Nat} {LS WS : Nat → List Bs} {V : Nat → Value} {s : St} (h : Pa w0 w p b fr nb n J RB LS WS V s) (ho : Only S w w')
    (hS : ∀ g, g ∈ S → w0.heap.size ≤ g ∧ ∃ cs t f, w.heap[g]? = some (.cells cs t f) ∧ ArrT t) : Pa w0 w' p b fr nb n J RB LS WS V s := by
  have h1 : ∀ g t, (∃ cs f, w.heap[g]? = some (.cells cs t f)) → ¬ ArrT t → g ∉ S := fun g t hg ht hm => by
    obtain ⟨_, cs, u, f, h1, h2⟩ := hS g hm
    obtain ⟨cs2, f2, h3⟩ := hg
    rw [h3] at h1
    cases h1
    exact ht h2
  exact { geo := h.geo, n3 := h.n3, pb := h.pb, sn := h.sn, up := h.up, fu := h.fu, sd := h.sd, zz := h.zz, jj := h.jj, rr := h.rr, ww := h.ww, vr := h.vr, gj := h.gj, gr := h.gr
          st := h.st.only ho (h1 _ _ h.st.typeP (fun h => h.1 rfl)) (h1 _ _ h.st.typeB (fun h => h.2.1 rfl))
          jn := fun k hk => (h.jn k hk).only ho (h1 _ _ (h.jn k hk).typeJ notArr_jn) (fun g hg => h1 _ _ ((h.jn k hk).typeR hg) notArr_string)
          vv := fun k hk => own_keep (h.vv k hk) ho (fun g hg => h1 _ _ (own_type (h.vv k hk) hg) notArr_string)
          on := h.on.trans ho (fun x hx => Or.inr (hS x hx).1) }
theorem Pa.keep {w0 w w' : World} {p b n : Nat} {fr nb J : Nat → Nat} {RB : Nat → Option Nat} {LS WS : Nat → List Bs} {V : Nat → Value} {s : St} (h : Pa w0 w p b fr nb n J RB LS WS V s) (ho : Only [] w w') : Pa w0 w' p b fr nb n J RB LS WS V s := h.only ho (by simp)
/-- One append: a part's journal takes the record, or it doesn't. -/
def AppP (w0 : World) (p b : Nat) (fr nb J : Nat → Nat) (LS WS : Nat → List Bs) (V : Nat → Value) (k : Nat) (y : Bs) (w : World) (e : Ending) (w' : World) : Prop := KeepA w w' ∧
  ((∃ c : Int, e = .returned (.int .i64 c) ∧ (c = 3 ∨ c = 14) ∧ ∃ RB s, Pa w0 w' p b fr nb 3 J RB LS WS V s) ∨
    (e = .returned (.int .i64 0) ∧ ∃ RB s, Pa w0 w' p b fr nb 3 J RB (upd LS k (LS k ++ [y])) WS V s))
theorem Pa.few {w0 w : World} {p b k n : Nat} {fr nb J : Nat → Nat} {RB : Nat → Option Nat} {LS WS : Nat → List Bs} {V : Nat → Value} {s : St} (h : Pa w0 w p b fr nb n J RB LS WS V s) (hk : k < n) : (LS k).length ≤ 2000 := by
  have h1 := frames_count (LS k)
  have h2 := (h.sd k hk).fits
  have h3 := h.n3
  have h4 := (h.geo.has k (by omega)).2
  omega
/-- A row of records grows. -/
theorem Pa.grow {w0 w w' : World} {p b k : Nat} {fr nb J : Nat → Nat} {RB : Nat → Option Nat} {LS WS : Nat → List Bs} {V : Nat → Value} {s : St} (h : Pa w0 w p b fr nb 3 J RB LS WS V s) (hk : k < 3) (y : Bs) (v : Value)
    (hown : w'.ownsRow w0.heap.size 9 1 v ((WS k).length + 1) ((WS k).map strV ++ [strV y])) (ho : Only (V k).ownBlock.toList w w') (hat : v.ownBlock = (V k).ownBlock ∨ ∀ g, v.ownBlock = some g → w.heap.size ≤ g) : Pa w0 w' p b fr nb 3 J RB LS (upd WS k (WS k ++ [y])) (upd V k v) s := by
  have hm : ∀ x, x ∈ (V k).ownBlock.toList → (V k).ownBlock = some x := fun x hx => by simpa using hx
  have hty : ∀ x, x ∈ (V k).ownBlock.toList → ∃ cs f, w.heap[x]? = some (.cells cs 9 f) := fun x hx => own_type (h.vv k hk) (hm x hx)
  have hnt : ∀ g t, (∃ cs f, w.heap[g]? = some (.cells cs t f)) → t ≠ 9 → g ∉ (V k).ownBlock.toList := fun g t hg ht hx => ty_ne hg (hty g hx) ht rfl
  have hvb : ∀ i g, i < 3 → i ≠ k → (V i).ownBlock = some g → g ∉ (V k).ownBlock.toList := fun i g hi hik hg hx => h.ww i k hi hk hik g hg (hm g hx)
  have hrb : ∀ i g, i < 3 → RB i = some g → g ∉ (V k).ownBlock.toList := fun i g hi hg hx => h.vr k i hk hi g (hm g hx) hg
  refine { geo := h.geo, n3 := h.n3, pb := h.pb, sn := h.sn, up := h.up, fu := h.fu, sd := h.sd, zz := h.zz, jj := h.jj, rr := h.rr, gj := h.gj, gr := h.gr
           st := h.st.only ho (hnt _ _ h.st.typeP (by decide)) (hnt _ _ h.st.typeB (by decide))
           jn := fun i hi => (h.jn i hi).only ho (hnt _ _ (h.jn i hi).typeJ (by decide)) (fun g hg => hrb i g hi hg)
           vv := fun i hi => ?_, ww := fun i m hi hm2 him g hg e => ?_, vr := fun i m hi hm2 g hg e => ?_
           on := h.on.trans ho (fun x hx => Or.inr ((h.vv k hk).lt x (hm x hx)).1) }
  · by_cases hik : i = k
    · subst hik
      rw [upd_at, upd_at, List.length_append, List.map_append]
      exact hown
    · rw [upd_ne _ _ hik, upd_ne _ _ hik]
      exact own_keep (h.vv i hi) ho (fun g hg => hvb i g hi hik hg)
  · by_cases hik : i = k
    · subst hik
      rw [upd_at] at hg
      rw [upd_ne _ _ (fun e => him e.symm)] at e
      rcases hat with h2 | h2
      · rw [h2] at hg
        exact h.ww i m hi hm2 him g hg e
      · have := h2 g hg
        have := ((h.vv m hm2).lt g e).2
        omega
    · rw [upd_ne _ _ hik] at hg
      by_cases hmk : m = k
      · subst hmk
        rw [upd_at] at e
        rcases hat with h2 | h2
        · rw [h2] at e
          exact h.ww i m hi hm2 him g hg e
        · have := h2 g e
          have := ((h.vv i hi).lt g hg).2
          omega
      · rw [upd_ne _ _ hmk] at e
        exact h.ww i m hi hm2 him g hg e
  · by_cases hik : i = k
    · subst hik
      rw [upd_at] at hg
      rcases hat with h2 | h2
      · rw [h2] at hg
        exact h.vr i m hi hm2 g hg e
      · have := h2 g hg
        have := ty_lt ((h.jn m hm2).typeR e)
        omega
    · rw [upd_ne _ _ hik] at hg
      exact h.vr i m hi hm2 g hg e
end Go.Proofs.YtngcdkbnljoodaaGreatDoor

namespace Go.Proofs.YtngcdkbnljoodaaGreatDoor
set_option linter.unusedVariables false
set_option linter.unusedSimpArgs false
open Go.RowKit Go.ChangeShapes Go.WideShapes

theorem weightsAll_mem {H : Type} (P : Program) (e : TypeId) : ∀ (ss : List ByteArray) (s : ByteArray), s ∈ ss → s.data.toList.length ∈ DataW.weightsAll (H := H) P e (strs ss)
  | [], _, h => by cases h
  | a :: ss, s, h => by
    show _ ∈ DataW.weights P e (.lit (.string a.data.toList)) ++ DataW.weightsAll P e (strs ss)
    rcases List.mem_cons.1 h with rfl | h
    · exact List.mem_append_left _ (by simp [DataW.weights])
    · exact List.mem_append_right _ (weightsAll_mem P e ss s h)
theorem bytes_string : Tryz.prog.bytesOf 9 = 16 := by kernel_rfl
theorem row_strs {H : Type} {enc : TypeId × Value → H} {W : World} {ts : List TypeId} {ds : List (DataW H)} {j : Nat} {d : DataW H} {p : List MemPlace} {a : Option Addr} {len cap : Nat}
    (hsz : (DataW.weightsEach Tryz.prog ts ds).all (· ≤ reachBytes) = true) (ht : ts[j]? = some 37) (hd : ds[j]? = some d) (h : DataW.Trod enc Tryz.prog W 0 (fun _ => true) true 37 (.slice a len cap) d p) :
    ∃ l : List Bs, RowS W (.slice a len cap) l ∧ l.length * 16 ≤ 140737488351232 ∧ ∀ x ∈ l, x.length ≤ 140737488351232 := by
  obtain ⟨fuel, hf⟩ := h
  rcases open_strings Tryz.underlying37 Tryz.underlying9 (by kernel_rfl) hf with ⟨hcs, hx⟩ | ⟨x, l, c, ss, hcs, _, hl, hm, hz, hx, hcell, hws⟩
  · simp [Value.cells] at hcs
    obtain ⟨rfl, rfl, rfl⟩ := hcs
    exact ⟨[], ⟨none, 0, rfl, fun k x h => by simp at h⟩, by simp, by simp⟩
  · simp [Value.cells] at hcs
    obtain ⟨rfl, rfl, rfl⟩ := hcs
    simp only [Prod.mk.injEq] at hx
    obtain ⟨rfl, rfl⟩ := hx
    simp only [if_true] at hz
    have htk : (ss.take len).length = len := by rw [List.length_take]; omega
    refine ⟨(ss.take len).map (fun s => s.data.toList), ⟨some x, cap, by rw [List.length_map, htk], fun k y hk => ⟨x, rfl, ?_⟩⟩, ?_, ?_⟩
    · rw [List.getElem?_map, Option.map_eq_some_iff] at hk
      obtain ⟨s, hs, rfl⟩ := hk
      have hkl : k < (ss.take len).length := (List.getElem?_eq_some_iff.1 hs).1
      have hks : k < ss.length := by rw [List.length_take] at hkl; omega
      rw [List.getElem?_take_of_lt (by omega)] at hs
      rw [hcell k hks, List.getD_eq_getElem?_getD, hs, strV, mkS_list]
      rfl
    · have h1 := sized_slice hsz ht hd Tryz.underlying37
      rw [bytes_string] at h1
      simp only [strs, List.length_map, reachBytes] at h1
      rw [List.length_map, htk]
      rw [htk] at h1
      omega
    · intro y hy
      obtain ⟨s, hs, rfl⟩ := List.mem_map.1 hy
      have h2 := List.all_eq_true.1 hsz _ (DataW.weights_mem_each ht hd s.data.toList.length (by
        rw [DataW.weights, Tryz.underlying37]
        exact List.mem_cons_of_mem _ (List.mem_append_left _ (weightsAll_mem _ _ _ _ hs))))
      exact of_decide_eq_true h2
end Go.Proofs.YtngcdkbnljoodaaGreatDoor

