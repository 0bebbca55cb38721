/- The journal's blocks (an iterator) and put walk. No conditions beyond those typed. -/
import Derived.RangeFuncNested
import Derived.RangeFuncBound
import Derived.RangeFuncCalls
import Derived.RangeFuncLeaves
import Derived.Shelf.Abstract
import Derived.Shelf.RegionOpen
import Derived.WalkKit
import Derived.OwnWalkIn
import Derived.TacticsInMore
import Derived.LoopNIn
import Derived.LoopIn
import Derived.Sort.QuietIn
import Derived.Test.YtngcdkbnljoodaaGreatDoorJouG
import Derived.Test.YtngcdkbnljoodaaGreatDoorMrgL
namespace Go.Proofs.YtngcdkbnljoodaaGreatDoor
set_option linter.unusedVariables false
set_option linter.unusedSimpArgs false
open Go.RowKit Go.Shelf Go.Proofs.YtngcdkbnljoodaaGreatDoorW.PrintWords
attribute [local go_sem] Oper.semAt_some

/-- The blocks from one on, so many. -/
def fins (nb : Nat) : (i k : Nat) → i + k ≤ nb → List (Fin nb)
  | _, 0, _ => []
  | i, k + 1, h => ⟨i, by omega⟩ :: fins nb (i + 1) k (by omega)
theorem fins_length (nb : Nat) : ∀ (i k : Nat) (h : i + k ≤ nb), (fins nb i k h).length = k
  | _, 0, _ => rfl
  | i, k + 1, h => by simp [fins, fins_length nb (i + 1) k]
theorem fins_succ (nb i k : Nat) (h : i + (k + 1) ≤ nb) : fins nb i (k + 1) h = ⟨i, by omega⟩ :: fins nb (i + 1) k (by omega) := rfl
def KpB (B : Nat) (W W' : World) : Prop := W'.heap[B]? = W.heap[B]?
def encF (nb : Nat) (x : Fin nb) : Array Value := #[.int .i64 (x.1 : Int)]
set_option maxRecDepth 100000 in
set_option maxHeartbeats 1000000 in
theorem blocks1_in (F : Fence) (n : Nat) (h56 : F.fn 91) (hro : F.round = none) (hn : 1 ≤ n) (l B1 B2 nb fr te k0 : Nat) (hft : fr ≤ te) (hfr : te ≤ 32 * nb) (hnb : nb ≤ 256) (hk0 : fr / 32 + k0 = (te + 31) / 32)
    (hle : fr / 32 + k0 ≤ nb) (J Jx : List (Fin nb) → World → Prop)
    (hY : ∀ pre x W, J pre W → pre.length < k0 → YieldAt F (n - 1) Tryz.prog l (encF nb x) W fun e W' =>
      (e = .returned (.bool true) ∧ J (pre ++ [x]) W' ∧ KpB B2 W W') ∨ (e = .returned (.bool false) ∧ Jx (pre ++ [x]) W'))
    (W : World) (h1 : W.cell? ⟨B1, 0, none⟩ = some (.int .i64 (fr : Int))) (h2 : W.heap[B2]? = some (.cells #[.int .i64 (te : Int)] 3 (0, 0))) (h0 : J [] W) :
    CallsIn F n Tryz.prog 91 #[.func (.yield l) #[] #[], .pointer (some ⟨B1, 0, none⟩), .pointer (some ⟨B2, 0, none⟩)] W fun e W' => (∃ v, e = .returned v) ∧
      ((∃ ys, ys = fins nb (fr / 32) k0 hle ∧ J ys W') ∨ (∃ pre, pre <+: fins nb (fr / 32) k0 hle ∧ Jx pre W')) := by
  have hL : ∃ L, L = fins nb (fr / 32) k0 hle := ⟨_, rfl⟩
  obtain ⟨L, hL⟩ := hL
  have hLl : L.length = k0 := by rw [hL]; exact fins_length nb _ _ _
  rw [← hL]
  have HL := Lib.hid hL
  have HK := Lib.hid hk0
  have HLl := Lib.hid hLl
  have H2 := Lib.hid h2
  have H0 := Lib.hid h0
  clear hL hLl h0 hk0 h2
  refine callsIn_of_wp Tryz.func91 rfl h56 ?_ hro
  simp only [Tryz.ntmps91, List.size_toArray, List.length_cons, List.length_nil, Nat.reduceAdd, Nat.reduceSub, Array.replicate_succ, Array.replicate_zero, List.push_toArray, List.append_toArray, List.nil_append, List.cons_append]
  gi_wp2
  gi_loopw [4] (fun i wr => ∃ (pre : List (Fin nb)) (j k : Nat) (h : j + k ≤ nb), i = .int .i64 (j : Int) ∧ L = pre ++ fins nb j k h ∧ j + k = (te + 31) / 32 ∧ wr.heap[B2]? = some (.cells #[.int .i64 (te : Int)] 3 (0, 0)) ∧ J pre wr) (fun i _ => nb - (intOf i).toNat)
  case atStart => exact ⟨[], fr / 32, k0, hle, by first | rfl | simp, HL.out, HK.out, H2.out, H0.out⟩
  case round =>
    obtain ⟨pre, j, k, h, rfl, hx, hjk, hb, hJ⟩ := hrel
    have c2 : wr.cell? ⟨B2, 0, none⟩ = some (.int .i64 (te : Int)) := blk_cell hb 0
    cases k with
    | zero =>
      have hlt : ¬ (j * 32 < te) := by omega
      have HX := Lib.hid hx
      have HJ := Lib.hid hJ
      clear hx hJ hjk hb
      gi_wp2
      go_end0
      exact ⟨⟨_, rfl⟩, .inl ⟨pre, by rw [HX.out]; simp [fins], HJ.out⟩⟩
    | succ k =>
      have hlt : j * 32 < te := by omega
      have hjn : j < nb := by omega
      obtain ⟨fn, tmps, assign, body, hy, hR⟩ := hY pre ⟨j, hjn⟩ wr hJ (by have := HLl.out; have e := congrArg List.length hx; rw [List.length_append, fins_length] at e; omega)
      unfold encF at hy
      have HX := Lib.hid hx
      have HB := Lib.hid hb
      have HJK := Lib.hid hjk
      clear hx hJ hjk hb
      gi_wp2
      refine hR.mono ?_
      rintro e W3 (⟨rfl, hJ3, hk3⟩ | ⟨rfl, hJx3⟩)
      · have HB3 : Hid (W3.heap[B2]? = some (.cells #[.int .i64 (te : Int)] 3 (0, 0))) := hk3.trans HB.out
        have HJ3 := Lib.hid hJ3
        clear hJ3 hk3
        gi_wp2
        go_roundw
        case rel => exact ⟨pre ++ [⟨j, hjn⟩], j + 1, k, by omega, by go_num, by rw [HX.out, fins_succ]; simp, by have := HJK.out; omega, HB3.out, HJ3.out⟩
        case measure => simp [intOf]; omega
      · have HJ3 := Lib.hid hJx3
        clear hJx3
        gi_wp2
        refine bodyPost_ret (results_none rfl _ _ _) rfl ?_
        exact ⟨⟨_, rfl⟩, .inr ⟨pre ++ [⟨j, hjn⟩], by rw [HX.out, fins_succ]; exact ⟨fins nb (j + 1) k (by omega), by simp⟩, HJ3.out⟩⟩

theorem blocks_in (F : Fence) (n : Nat) (h50 : F.fn 78) (hro : F.round = none) (fr te : Nat) (w : World) :
    CallsIn F n Tryz.prog 78 #[.int .i64 (fr : Int), .int .i64 (te : Int)] w fun e w' => e = .returned (.func (.func 91) #[] #[.pointer (some ⟨w.heap.size, 0, none⟩), .pointer (some ⟨w.heap.size + 1, 0, none⟩)]) ∧
      w' = (w.alloc (.cells #[.int .i64 (fr : Int)] 3)).alloc (.cells #[.int .i64 (te : Int)] 3) := by
  refine callsIn_of_wp Tryz.func78 rfl h50 ?_ hro
  simp only [Tryz.ntmps78, List.size_toArray, List.length_cons, List.length_nil, Nat.reduceAdd, Nat.reduceSub, Array.replicate_succ, Array.replicate_zero, List.push_toArray, List.append_toArray, List.nil_append, List.cons_append]
  gi_wp2
  go_ret
  exact ⟨rfl, rfl⟩
/-- Blocks written one after another, as they come. -/
def putX (pf : Nat) (all was : Bs) (must : Bool) {nb : Nat} : List (Fin nb) → St → St × Int
  | [], s => (s, 0)
  | x :: xs, s => if must = false ∧ blk all x.1 = blk was x.1 then putX pf all was must xs s
      else if (s.write ((pf + x.1 : Nat) : Int) (blk all x.1)).2 ≠ 0 then s.write ((pf + x.1 : Nat) : Int) (blk all x.1)
      else putX pf all was must xs (s.write ((pf + x.1 : Nat) : Int) (blk all x.1)).1
theorem putX_fins (pf : Nat) (all was : Bs) (must : Bool) (nb : Nat) : ∀ (k i : Nat) (h : i + k ≤ nb) (s : St), putX pf all was must (fins nb i k h) s = putL pf all was must k i s := by
  intro k
  induction k with
  | zero => intro i h s; rfl
  | succ k ih =>
    intro i h s
    rw [fins_succ]
    unfold putX putL
    simp only [ih]
theorem putX_cons (pf : Nat) (all was : Bs) (must : Bool) {nb : Nat} (x : Fin nb) (xs : List (Fin nb)) (s : St) : putX pf all was must (x :: xs) s =
    if must = false ∧ blk all x.1 = blk was x.1 then putX pf all was must xs s
      else if (s.write ((pf + x.1 : Nat) : Int) (blk all x.1)).2 ≠ 0 then s.write ((pf + x.1 : Nat) : Int) (blk all x.1)
      else putX pf all was must xs (s.write ((pf + x.1 : Nat) : Int) (blk all x.1)).1 := rfl
theorem putX_snoc (pf : Nat) (all was : Bs) (must : Bool) {nb : Nat} (x : Fin nb) : ∀ (pre : List (Fin nb)) (s : St), (putX pf all was must pre s).2 = 0 →
    putX pf all was must (pre ++ [x]) s = putX pf all was must [x] (putX pf all was must pre s).1 := by
  intro pre
  induction pre with
  | nil => intro s _; rfl
  | cons y pre ih =>
    intro s h
    rw [putX_cons pf all was must y pre s] at h ⊢
    rw [List.cons_append, putX_cons pf all was must y (pre ++ [x]) s]
    by_cases h1 : must = false ∧ blk all y.1 = blk was y.1
    · rw [if_pos h1] at h ⊢
      rw [if_pos h1]
      exact ih s h
    · rw [if_neg h1] at h ⊢
      rw [if_neg h1]
      by_cases h2 : (s.write ((pf + y.1 : Nat) : Int) (blk all y.1)).2 ≠ 0
      · rw [if_pos h2] at h
        exact absurd h h2
      · rw [if_neg h2] at h ⊢
        rw [if_neg h2]
        exact ih _ h
theorem putX_stop (pf : Nat) (all was : Bs) (must : Bool) {nb : Nat} : ∀ (pre rest : List (Fin nb)) (s : St), (putX pf all was must pre s).2 ≠ 0 →
    putX pf all was must (pre ++ rest) s = putX pf all was must pre s := by
  intro pre
  induction pre with
  | nil => intro rest s h; exact absurd rfl h
  | cons y pre ih =>
    intro rest s h
    rw [List.cons_append]
    unfold putX at h ⊢
    split
    · rename_i h1
      rw [if_pos h1] at h
      exact ih rest s h
    · rename_i h1
      rw [if_neg h1] at h
      split
      · rfl
      · rename_i h2
        rw [if_neg h2] at h
        exact ih rest _ h
/-- Between two rounds. -/
structure PutIs (w W : World) (p b n0 g : Nat) (pf nb te : Int) (all was : ByteArray) (must : Bool) (s : St) (e : Int) : Prop where
  st : StoreIs W p b s
  b5 : W.heap[n0]? = some (.cells #[.pointer (some ⟨p, 0, none⟩), .int .i64 pf, .int .i64 nb] 101 (0, 0))
  b6 : W.heap[n0 + 1]? = some (.cells #[.string all] 9 (0, 0))
  b9 : W.heap[n0 + 1 + 1]? = some (.cells #[.bool must] 4 (0, 0))
  b10 : W.heap[n0 + 1 + 1 + 1]? = some (.cells #[.int .i64 e] 25 (0, 0))
  b11 : W.heap[g]? = some (.cells #[.string was] 9 (0, 0))
  b2 : W.heap[g + 1 + 1]? = some (.cells #[.int .i64 te] 3 (0, 0))
  only : Only [p, b] w W
theorem PutIs.grown {w A B : World} {p b n0 g : Nat} {pf nb te : Int} {all was : ByteArray} {must : Bool} {s : St} {e : Int} (h : PutIs w A p b n0 g pf nb te all was must s e) {row : Option Nat} (hg : A.grownBy B row) {Bd : Nat}
    (hr : ∀ r, row = some r → Bd ≤ r ∧ ∃ o : Obj, A.heap[r]? = some o ∧ o.isCells = false) (hB : w.heap.size ≤ Bd) : PutIs w B p b n0 g pf nb te all was must s e := by
  have key : ∀ {k : Nat} {cs : Array Value} {t : TypeId} {fr : Nat × Nat}, A.heap[k]? = some (.cells cs t fr) → B.heap[k]? = some (.cells cs t fr) := by
    intro k cs t fr hk
    refine (hg.block k (blk_lt hk) (fun e => ?_)).trans hk
    obtain ⟨_, o, ho, hc⟩ := hr k e.symm
    rw [hk] at ho
    cases ho
    cases hc
  obtain ⟨a1, a2, ⟨wr, a3⟩, a4⟩ := h.st
  exact ⟨⟨a1, a2, ⟨wr, key a3⟩, key a4⟩, key h.b5, key h.b6, key h.b9, key h.b10, key h.b11, key h.b2, h.only.grown hg (fun k hk => Or.inr (Nat.le_trans hB (hr k hk).1))⟩
theorem st_put {w W : World} {p b D : Nat} {s : St} {x : Option (List Deferred)} (h : StoreIs W p b s) (ho : Only [p, b] w W) (hD : w.heap.size ≤ D) (hK : W.heap[D]? = some (.deferred x)) (o' : Obj) :
    StoreIs (W.putObj D o') p b s ∧ Only [p, b] w (W.putObj D o') := by
  have hg := grownBy_putObj' W D o'
  have key : ∀ {k : Nat} {cs : Array Value} {t : TypeId} {fr : Nat × Nat}, W.heap[k]? = some (.cells cs t fr) → (W.putObj D o').heap[k]? = some (.cells cs t fr) := by
    intro k cs t fr hk
    refine (hg.block k (blk_lt hk) (fun e => ?_)).trans hk
    have e' : k = D := Option.some.inj e
    rw [e', hK] at hk
    cases hk
  obtain ⟨a1, a2, ⟨wr, a3⟩, a4⟩ := h
  exact ⟨⟨a1, a2, ⟨wr, key a3⟩, key a4⟩, ho.grown hg (fun k hk => Or.inr (by cases hk; exact hD))⟩
theorem st_set {w W : World} {p b g : Nat} {s : St} (h : StoreIs W p b s) (ho : Only [p, b] w W) (hg : w.heap.size ≤ g) (hp : p < w.heap.size ∧ b < w.heap.size) (v : Value) :
    StoreIs (W.setCell ⟨g, 0, none⟩ v) p b s ∧ Only [p, b] w (W.setCell ⟨g, 0, none⟩ v) :=
  ⟨h.only (S := [g]) ((Only.refl _ _).setCell (p := ⟨g, 0, none⟩) (Or.inl (by simp)) _) (by simp; omega) (by simp; omega), ho.setCell (p := ⟨g, 0, none⟩) (Or.inr hg) _⟩
theorem PutIs.wrote {w A B : World} {p b n0 g : Nat} {pf nb te : Int} {all was : ByteArray} {must : Bool} {s s' : St} {e : Int} (h : PutIs w A p b n0 g pf nb te all was must s e) (hn : w.heap.size ≤ n0) (hg : n0 ≤ g) (hp : p < w.heap.size ∧ b < w.heap.size)
    (ho : Only [p, b] A B) (hs : StoreIs B p b s') : PutIs w B p b n0 g pf nb te all was must s' e :=
  ⟨hs, ho.blk h.b5 (by simp; omega), ho.blk h.b6 (by simp; omega), ho.blk h.b9 (by simp; omega), ho.blk h.b10 (by simp; omega), ho.blk h.b11 (by simp; omega), ho.blk h.b2 (by simp; omega), h.only.tr ho⟩
theorem PutIs.err {w A : World} {p b n0 g : Nat} {pf nb te : Int} {all was : ByteArray} {must : Bool} {s : St} {e : Int} (h : PutIs w A p b n0 g pf nb te all was must s e) (hn : w.heap.size ≤ n0) (hg : n0 + 1 + 1 + 1 < g) (hp : p < w.heap.size ∧ b < w.heap.size) (e' : Int) :
    PutIs w (A.setCell ⟨n0 + 1 + 1 + 1, 0, none⟩ (.int .i64 e')) p b n0 g pf nb te all was must s e' := by
  obtain ⟨k1, k2⟩ := st_set h.st h.only (g := n0 + 1 + 1 + 1) (by omega) hp (.int .i64 e')
  have far : ∀ {k : Nat} {cs : Array Value} {t : TypeId}, A.heap[k]? = some (.cells cs t (0, 0)) → k ≠ n0 + 1 + 1 + 1 → (A.setCell ⟨n0 + 1 + 1 + 1, 0, none⟩ (.int .i64 e')).heap[k]? = some (.cells cs t (0, 0)) := fun hk hne => blk_far hk (p := ⟨n0 + 1 + 1 + 1, 0, none⟩) hne _
  exact ⟨k1, far h.b5 (by omega), far h.b6 (by omega), far h.b9 (by omega), blk_set h.b10 0 (.int .i64 e'), far h.b11 (by omega), far h.b2 (by omega), k2⟩
theorem keeps_only {A B : World} {p b : Nat} {s : St} (hs : StoreIs A p b s) (ho : Only [p, b] A B) (n : Nat) : KeepsFrom n A B :=
  ⟨ho.size, fun k o _ hk hc => ho.blk hk (by
    obtain ⟨_, _, ⟨wr, h1⟩, h2⟩ := hs
    intro hm
    rcases List.mem_cons.1 hm with rfl | hm
    · rw [h1] at hk; cases hk; cases hc
    · rw [List.mem_singleton.1 hm] at hk
      rw [h2] at hk; cases hk; cases hc)⟩
theorem Only.keeps {A B : World} (ho : Only [] A B) (n : Nat) : KeepsFrom n A B := ⟨ho.size, fun k o _ hk _ => ho.blk hk (by simp)⟩
set_option maxRecDepth 100000 in
set_option maxHeartbeats 8000000 in
theorem put_of {w : World} {p b : Nat} {s : St} (h : StoreIs w p b s) (pf nb : Nat) (hh : s.Has pf nb) (all : ByteArray) (hall : all.size = 32 * nb) (fr te : Nat) (hft : fr ≤ te) (hfr : te ≤ 32 * nb) (must : Bool) :
    Calls Tryz.prog 58 #[.agg #[.pointer (some ⟨p, 0, none⟩), .int .i64 (pf : Int), .int .i64 (nb : Int)], .string all, .int .i64 (fr : Int), .int .i64 (te : Int), .bool must] w fun e w' =>
      e = .returned (.int .i64 (putL pf all.data.toList (partB s pf nb) must ((te + 31) / 32 - fr / 32) (fr / 32) s).2) ∧
      StoreIs w' p b (putL pf all.data.toList (partB s pf nb) must ((te + 31) / 32 - fr / 32) (fr / 32) s).1 ∧ Only [p, b] w w' := by
  have hnb : nb ≤ 256 := by have := h.wf.hi; have := hh.2; omega
  have hpfb : pf ≤ 256 := by have := h.wf.hi; have := hh.2; omega
  have hpl := partB_length h.wf hh
  have hle : fr / 32 + ((te + 31) / 32 - fr / 32) ≤ nb := by omega
  have hk0 : fr / 32 + ((te + 31) / 32 - fr / 32) = (te + 31) / 32 := by omega
  have HE := Lib.hid (putX_fins pf all.data.toList (partB s pf nb) must nb ((te + 31) / 32 - fr / 32) (fr / 32) hle s)
  generalize hk : (te + 31) / 32 - fr / 32 = k0 at *
  have hlt := h.lt
  have HS := Lib.hid h
  have HH := Lib.hid hh
  have hro : Fence.wide.round = none := rfl
  clear h hh hk
  refine (callsIn_wide (n := 6)).1 ?_
  refine callsIn_of_wp_marks Tryz.func58 rfl trivial ?_ rfl
  simp only [Tryz.ntmps58, List.size_toArray, List.length_cons, List.length_nil, Nat.reduceAdd, Nat.reduceSub, Array.replicate_succ, Array.replicate_zero, List.push_toArray, List.append_toArray, List.nil_append, List.cons_append]
  gi_wp2_with fail
  obtain ⟨W, hW⟩ : ∃ W, W = (((w.alloc (.cells #[.pointer (some ⟨p, 0, none⟩), .int .i64 (pf : Int), .int .i64 (nb : Int)] 101)).alloc (.cells #[.string all] 9)).alloc (.cells #[.bool must] 4)).alloc (.cells #[.int .i64 0] 25) := ⟨_, rfl⟩
  rw [← hW]
  have hS1 : StoreIs W p b s := by rw [hW]; exact (((HS.out.alloc _).alloc _).alloc _).alloc _
  have hO1 : Only [p, b] w W := by rw [hW]; exact ((((Only.refl _ _).alloc _).alloc _).alloc _).alloc _
  have f5 : W.heap[w.heap.size]? = some (.cells #[.pointer (some ⟨p, 0, none⟩), .int .i64 (pf : Int), .int .i64 (nb : Int)] 101 (0, 0)) := by rw [hW]; exact blk_alloc (blk_alloc (blk_alloc (blk_new w _) _) _) _
  have f6 : W.heap[w.heap.size + 1]? = some (.cells #[.string all] 9 (0, 0)) := by
    rw [hW]; have := blk_new (w.alloc (.cells #[.pointer (some ⟨p, 0, none⟩), .int .i64 (pf : Int), .int .i64 (nb : Int)] 101)) (.cells #[.string all] 9)
    rw [World.size_alloc] at this; exact blk_alloc (blk_alloc this _) _
  have f9 : W.heap[w.heap.size + 1 + 1]? = some (.cells #[.bool must] 4 (0, 0)) := by
    rw [hW]; have := blk_new ((w.alloc (.cells #[.pointer (some ⟨p, 0, none⟩), .int .i64 (pf : Int), .int .i64 (nb : Int)] 101)).alloc (.cells #[.string all] 9)) (.cells #[.bool must] 4)
    rw [World.size_alloc, World.size_alloc] at this; exact blk_alloc this _
  have f10 : W.heap[w.heap.size + 1 + 1 + 1]? = some (.cells #[.int .i64 0] 25 (0, 0)) := by
    rw [hW]; have := blk_new (((w.alloc (.cells #[.pointer (some ⟨p, 0, none⟩), .int .i64 (pf : Int), .int .i64 (nb : Int)] 101)).alloc (.cells #[.string all] 9)).alloc (.cells #[.bool must] 4)) (.cells #[.int .i64 0] 25)
    rw [World.size_alloc, World.size_alloc, World.size_alloc] at this; exact this
  clear hW
  refine ⟨trivial, ?_⟩
  refine (callsIn_wide.2 (pbytes_of hS1 pf nb HH.out)).mono ?_
  rintro e w1 ⟨rfl, hb⟩
  have HS1 := Lib.hid (hS1.below hb)
  have HO1 := Lib.hid (hO1.tr (Only.of_below hb))
  have F5 := Lib.hid (blk_below f5 hb)
  have F6 := Lib.hid (blk_below f6 hb)
  have F9 := Lib.hid (blk_below f9 hb)
  have F10 := Lib.hid (blk_below f10 hb)
  clear hb hS1 hO1 f5 f6 f9 f10
  gi_wp2_with fail
  refine ⟨trivial, ?_⟩
  refine (blocks_in Fence.wide 5 trivial rfl fr te _).mono ?_
  rintro e w2 ⟨rfl, rfl⟩
  gi_wp2_with fail
  obtain ⟨was, hwas⟩ : ∃ was, was = mkS (partB s pf nb) := ⟨_, rfl⟩
  rw [← hwas]
  have hwl : was.data.toList = partB s pf nb := by rw [hwas, list_mkS]
  have hws : was.size = 32 * nb := by rw [hwas, size_mkS, hpl]
  obtain ⟨W0, hW0⟩ : ∃ W0, W0 = ((w1.alloc (.cells #[.string was] 9)).alloc (.cells #[.int .i64 (fr : Int)] 3)).alloc (.cells #[.int .i64 (te : Int)] 3) := ⟨_, rfl⟩
  rw [← hW0]
  have hsz0 : W0.heap.size = w1.heap.size + 1 + 1 + 1 := by rw [hW0]; simp
  have hsw : w.heap.size + 1 + 1 + 1 < w1.heap.size := blk_lt F10.out
  have hB0 : Below w1.heap.size w1 W0 := by rw [hW0]; exact (((Below.refl _ _).alloc (Nat.le_refl _) _).alloc (by simp) _).alloc (by simp; omega) _
  have g1 : W0.heap[w1.heap.size]? = some (.cells #[.string was] 9 (0, 0)) := by rw [hW0]; exact blk_alloc (blk_alloc (blk_new w1 _) _) _
  have g2 : W0.heap[w1.heap.size + 1]? = some (.cells #[.int .i64 (fr : Int)] 3 (0, 0)) := by
    rw [hW0]; have := blk_new (w1.alloc (.cells #[.string was] 9)) (.cells #[.int .i64 (fr : Int)] 3)
    rw [World.size_alloc] at this; exact blk_alloc this _
  have g3 : W0.heap[w1.heap.size + 1 + 1]? = some (.cells #[.int .i64 (te : Int)] 3 (0, 0)) := by
    rw [hW0]; have := blk_new ((w1.alloc (.cells #[.string was] 9)).alloc (.cells #[.int .i64 (fr : Int)] 3)) (.cells #[.int .i64 (te : Int)] 3)
    rw [World.size_alloc, World.size_alloc] at this; exact this
  have hP0 : PutIs w W0 p b w.heap.size w1.heap.size pf nb te all was must s 0 :=
    ⟨HS1.out.below hB0, blk_below F5.out hB0, blk_below F6.out hB0, blk_below F9.out hB0, blk_below F10.out hB0, g1, g3, HO1.out.tr (Only.of_below hB0)⟩
  rw [← hwl] at HE
  have HWL := Lib.hid hwl
  have HFIN : Hid (putL pf all.data.toList (partB s pf nb) must k0 (fr / 32) s = putX pf all.data.toList was.data.toList must (fins nb (fr / 32) k0 hle) s) := by show _ = _; rw [← hwl]; exact HE.out.symm
  clear HE
  clear hW0 hwas hB0 g1 HS1 HO1 F5 F6 F9 F10 hwl hpl
  have hstops : SeqStopsK Fence.wide 5 Tryz.prog 91 #[.pointer (some ⟨w1.heap.size + 1, 0, none⟩), .pointer (some ⟨w1.heap.size + 1 + 1, 0, none⟩)] (encF nb) (KpB (w1.heap.size + 1 + 1))
      (fun ys => ys = fins nb (fr / 32) k0 hle) (fun pre => pre <+: fins nb (fr / 32) k0 hle) k0 W0 := fun l J Jx W hW _ _ hY h0 =>
    blocks1_in Fence.wide 5 trivial rfl (by omega) l _ _ nb fr te k0 hft hfr hnb hk0 hle J Jx hY W (blk_cell (blk_below g2 hW) 0) (blk_below g3 hW) h0
  clear g2 g3
  refine wpIn_rangeFunc_ownG (α := Fin nb) hro (by omega) (gf := 91) (lb := #[.pointer (some ⟨w1.heap.size + 1, 0, none⟩), .pointer (some ⟨w1.heap.size + 1 + 1, 0, none⟩)]) rfl trivial (enters_of Tryz.func91 (by kernel_rfl) rfl)
    hstops (fun h k => Eq.trans k h) (fun W l o o' hl hlo _ _ => by show (W.heap.setIfInBounds l o')[_]? = _; rw [Array.getElem?_setIfInBounds_ne (by omega)]) (Below.refl _ _) (fun _ => rfl)
    (fun pre W => PutIs w W p b w.heap.size w1.heap.size pf nb te all was must (putX pf all.data.toList was.data.toList must pre s).1 0 ∧ (putX pf all.data.toList was.data.toList must pre s).2 = 0)
    (fun c pre W => c = .ret ∧ PutIs w W p b w.heap.size w1.heap.size pf nb te all was must (putX pf all.data.toList was.data.toList must pre s).1 (putX pf all.data.toList was.data.toList must pre s).2 ∧ (putX pf all.data.toList was.data.toList must pre s).2 ≠ 0)
    (fun pre A B row hs hg hr => ⟨hs.1.grown hg hr (by omega), hs.2⟩)
    (fun c pre A B row hs hg hr => ⟨hs.1, hs.2.1.grown hg hr (by omega), hs.2.2⟩)
    ⟨hP0, rfl⟩
    (fun x => { tmps := #[.agg #[.pointer (some ⟨p, 0, none⟩), .int .i64 (pf : Int), .int .i64 (nb : Int)], .string all, .int .i64 (fr : Int), .int .i64 (te : Int), .bool must, .pointer (some ⟨w.heap.size, 0, none⟩),
      .pointer (some ⟨w.heap.size + 1, 0, none⟩), undef, undef, .pointer (some ⟨w.heap.size + 1 + 1, 0, none⟩), .pointer (some ⟨w.heap.size + 1 + 1 + 1, 0, none⟩), .pointer (some ⟨w1.heap.size, 0, none⟩), .int .i64 (x.1 : Int), undef, undef, undef,
      .agg #[.pointer (some ⟨p, 0, none⟩), .int .i64 (pf : Int), .int .i64 (nb : Int)], .string was, .int .i64 (fr : Int), .int .i64 (te : Int),
      .func (.func 91) #[] #[.pointer (some ⟨w1.heap.size + 1, 0, none⟩), .pointer (some ⟨w1.heap.size + 1 + 1, 0, none⟩)], .int .i64 (x.1 : Int), undef, undef, undef, undef, undef, undef, undef, undef, undef, undef, undef, undef, undef, undef, undef, undef, undef, undef, undef, undef, undef, undef, undef, undef, undef, undef, undef, undef, undef, undef, undef, undef], defers := [] }) ?assign ?body ?done ?stop
  case assign =>
    intro l x W K hK
    unfold encF
    gi_wp2
    exact hK
  case body =>
    rintro l pre x W ⟨hP, he⟩ _
    have c5a : W.cell? ⟨w.heap.size, 0, none⟩ = some (.pointer (some ⟨p, 0, none⟩)) := blk_cell hP.b5 0
    have c5b : W.cell? ⟨w.heap.size, 1, none⟩ = some (.int .i64 (pf : Int)) := blk_cell hP.b5 1
    have c6 : W.cell? ⟨w.heap.size + 1, 0, none⟩ = some (.string all) := blk_cell hP.b6 0
    have c9 : W.cell? ⟨w.heap.size + 1 + 1, 0, none⟩ = some (.bool must) := blk_cell hP.b9 0
    have c11 : W.cell? ⟨w1.heap.size, 0, none⟩ = some (.string was) := blk_cell hP.b11 0
    obtain ⟨i, hi⟩ := x
    obtain ⟨lo, hlo⟩ : ∃ lo : Nat, lo = i * 32 := ⟨_, rfl⟩
    obtain ⟨hi2, hhi⟩ : ∃ hi2 : Nat, hi2 = (i + 1) * 32 := ⟨_, rfl⟩
    have m1 : (i : Int) * 32 = (lo : Int) := by omega
    have m2 : ((i : Int) + 1) * 32 = (hi2 : Int) := by omega
    have l0 : (0 : Int) ≤ (lo : Int) := by omega
    have l1 : (lo : Int) ≤ (hi2 : Int) := by omega
    have l2 : (hi2 : Int) ≤ (all.size : Int) := by omega
    have l3 : (hi2 : Int) ≤ (was.size : Int) := by omega
    have eA : all.extract lo hi2 = mkS (blk all.data.toList i) := by rw [mkS_extract, hlo, hhi, show (i + 1) * 32 - i * 32 = 32 by omega, Nat.mul_comm i 32]; rfl
    have eB : was.extract lo hi2 = mkS (blk was.data.toList i) := by rw [mkS_extract, hlo, hhi, show (i + 1) * 32 - i * 32 = 32 by omega, Nat.mul_comm i 32]; rfl
    have hst := putX_snoc pf all.data.toList was.data.toList must ⟨i, hi⟩ pre s he
    rw [putX_cons] at hst
    generalize putX pf all.data.toList was.data.toList must pre s = r at *
    have HP := Lib.hid hP
    have H0 := Lib.hid he
    have HST := Lib.hid hst
    clear hP he hP0 hst hlo hhi hall hws
    have hpfn : pf ≤ 256 := hpfb
    have hmix : Tryz.prog.follows .mixedOrders = true := by kernel_rfl
    cases must
    · obtain ⟨A, hA⟩ : ∃ A, A = mkS (blk all.data.toList i) := ⟨_, rfl⟩
      obtain ⟨B, hB⟩ : ∃ B, B = mkS (blk was.data.toList i) := ⟨_, rfl⟩
      rw [← hA] at eA
      rw [← hB] at eB
      have hAB : (A.toList == B.toList) = decide (blk all.data.toList i = blk was.data.toList i) := by
        rw [hA, hB, ByteArray.toList_eq, ByteArray.toList_eq, list_mkS, list_mkS, Bool.eq_iff_iff]
        simp
      have HA := Lib.hid hA
      by_cases hq : blk all.data.toList i = blk was.data.toList i
      · rw [decide_eq_true hq] at hAB
        have HQ := Lib.hid hq
        have HST2 : Hid (putX pf all.data.toList was.data.toList false (pre ++ [⟨i, hi⟩]) s = (r.1, 0)) := by
          have h1 := HST.out
          rw [if_pos ⟨rfl, hq⟩] at h1
          exact h1
        clear hA hB hq
        gi_wp2
        (refine wpIn_region_quiet_round (by kernel_rfl) hmix (by kernel_rfl) ?_; gi_big_quiet_want; gi_big_quiet_op; go_big_quiet_on; gi_big_quiet_want; gi_big_quiet_op; go_big_quiet_on; gi_big_quiet_want; gi_big_quiet_op; go_big_quiet_on; gi_big_quiet_want; gi_big_quiet_op; go_big_quiet_on; gi_big_quiet_want; gi_big_quiet_op; go_big_quiet_on; gi_big_quiet_want; gi_big_quiet_op; go_big_quiet_on; gi_big_quiet_want; gi_big_quiet_op; go_big_quiet_on; gi_big_quiet_want; gi_big_quiet_op; go_big_quiet_on; gi_big_quiet_want; gi_big_quiet_op; go_big_quiet_on; gi_big_quiet_want; gi_big_quiet_op; go_big_quiet_on; gi_big_quiet_want; gi_big_quiet_op; go_big_quiet_on; gi_big_quiet_want; gi_big_quiet_op; go_big_quiet_on; gi_big_quiet_want; gi_big_quiet_op; go_big_quiet_on; refine wpQuietIn_nil ?_; intro _ hw'; obtain ⟨nq, hw''⟩ := hw'; subst hw'')
        gi_wp2
        have HO3 : Only [] W (W.drewN nq) := ⟨rfl, rfl, rfl, Nat.le_refl _, fun _ _ _ => rfl⟩
        exact ⟨HO3.keeps _, rfl, by rw [HST2.out]; exact HP.out.wrote (Nat.le_refl _) (by omega) hlt (HO3.mono (by simp)) (HP.out.st.only HO3 (by simp) (by simp)), by rw [HST2.out]⟩
      · rw [decide_eq_false hq] at hAB
        have HQ := Lib.hid hq
        clear hA hB hq
        gi_wp2
        (refine wpIn_region_quiet_round (by kernel_rfl) hmix (by kernel_rfl) ?_; gi_big_quiet_want; gi_big_quiet_op; go_big_quiet_on; gi_big_quiet_want; gi_big_quiet_op; go_big_quiet_on; gi_big_quiet_want; gi_big_quiet_op; go_big_quiet_on; gi_big_quiet_want; gi_big_quiet_op; go_big_quiet_on; gi_big_quiet_want; gi_big_quiet_op; go_big_quiet_on; gi_big_quiet_want; gi_big_quiet_op; go_big_quiet_on; gi_big_quiet_want; gi_big_quiet_op; go_big_quiet_on; gi_big_quiet_want; gi_big_quiet_op; go_big_quiet_on; gi_big_quiet_want; gi_big_quiet_op; go_big_quiet_on; gi_big_quiet_want; gi_big_quiet_op; go_big_quiet_on; gi_big_quiet_want; gi_big_quiet_op; go_big_quiet_on; gi_big_quiet_want; gi_big_quiet_op; go_big_quiet_on; gi_big_quiet_want; gi_big_quiet_op; go_big_quiet_on; refine wpQuietIn_nil ?_; intro _ hw'; obtain ⟨nq, hw''⟩ := hw'; subst hw'')
        gi_wp2
        refine wpIn_region_still_tail_round 10 (by kernel_rfl) (fun a w h => h) hmix (by kernel_rfl) ?_
        intro w3 hw3
        have HO3 : Hid (Only [] W w3) := by show Only _ _ _; rw [hw3]; exact ⟨rfl, rfl, rfl, Nat.le_refl _, fun _ _ _ => rfl⟩
        have d5a : w3.cell? ⟨w.heap.size, 0, none⟩ = some (.pointer (some ⟨p, 0, none⟩)) := by rw [hw3]; exact c5a
        have d5b : w3.cell? ⟨w.heap.size, 1, none⟩ = some (.int .i64 (pf : Int)) := by rw [hw3]; exact c5b
        have d6 : w3.cell? ⟨w.heap.size + 1, 0, none⟩ = some (.string all) := by rw [hw3]; exact c6
        clear hw3
        simp only [List.take_succ_cons, List.take_zero, List.drop_succ_cons, List.drop_zero]
        have hsum : IntKind.i64.wrap ((pf : Int) + (i : Int)) = ((pf + i : Nat) : Int) := by rw [IntWalk.i64_in _ (by omega)]; omega
        still_step
        still_step
        still_step
        still_step
        still_step
        still_step
        still_step
        still_step
        still_step
        still_step
        refine wpStill_nil ?_
        go_wp2_with fail
        refine (write_of (HP.out.st.only HO3.out (by simp) (by simp)) _ _).mono ?_
        rintro e w4 ⟨rfl, hst4, ho4⟩
        have hq4 : r.1.write ((pf : Int) + (i : Int)) A.data.toList = r.1.write ((pf + i : Nat) : Int) (blk all.data.toList i) := by rw [HA.out, list_mkS, Int.natCast_add]
        rw [hq4] at hst4 ⊢
        have hO := (HO3.out.mono (T := [p, b]) (by simp)).tr ho4
        have HP4 := Lib.hid (HP.out.wrote (Nat.le_refl _) (by omega) hlt hO hst4)
        have HKF := Lib.hid (keeps_only HP.out.st hO W0.heap.size)
        have HKP : Hid (KpB (w1.heap.size + 1 + 1) W w4) := hO.block _ (blk_lt HP.out.b2) (by simp; omega)
        have c10 : w4.cell? ⟨w.heap.size + 1 + 1 + 1, 0, none⟩ = some (.int .i64 0) := blk_cell HP4.out.b10 0
        have f10 : w4.frozen? ⟨w.heap.size + 1 + 1 + 1, 0, none⟩ = false := blk_frozen HP4.out.b10 0
        clear hst4 ho4 hO hq4 d5a d5b d6 c5a c5b c6 c9 c11 hsum eA eB
        generalize r.1.write ((pf + i : Nat) : Int) (blk all.data.toList i) = q at *
        by_cases hq2 : q.2 = 0
        · have hne : (q.2 != 0) = false := by rw [hq2]; rfl
          have HQ2 := Lib.hid hq2
          have HST2 : Hid (putX pf all.data.toList was.data.toList false (pre ++ [⟨i, hi⟩]) s = (q.1, 0)) := by
            have h1 := HST.out
            rw [if_neg (by rintro ⟨_, h⟩; exact HQ.out h), if_neg (by rw [hq2]; decide)] at h1
            exact h1
          clear hq2
          go_wp2_with fail
          gi_wp2
          exact ⟨HKF.out, HKP.out, by rw [HST2.out]; exact HP4.out, by rw [HST2.out]⟩
        · have hne : (q.2 != 0) = true := by rw [bne_iff_ne]; exact hq2
          have HQ2 := Lib.hid hq2
          have HST2 : Hid (putX pf all.data.toList was.data.toList false (pre ++ [⟨i, hi⟩]) s = q) := by
            have h1 := HST.out
            rw [if_neg (by rintro ⟨_, h⟩; exact HQ.out h), if_pos hq2] at h1
            exact h1
          clear hq2
          go_wp2_with fail
          gi_wp2
          exact ⟨HKF.out.trans ((KeepsOthers.setCell _ _ _).from _), rfl, by rw [HST2.out]; exact HP4.out.err (Nat.le_refl _) (by omega) hlt _, by rw [HST2.out]; exact HQ2.out⟩
    · gi_wp2
      (refine wpIn_region_quiet_round (by kernel_rfl) hmix (by kernel_rfl) ?_; gi_big_quiet_want; gi_big_quiet_op; go_big_quiet_on; gi_big_quiet_want; gi_big_quiet_op; go_big_quiet_on; gi_big_quiet_want; gi_big_quiet_op; go_big_quiet_on; gi_big_quiet_skip; gi_big_quiet_skip; gi_big_quiet_skip; gi_big_quiet_skip; gi_big_quiet_skip; gi_big_quiet_skip; gi_big_quiet_skip; gi_big_quiet_skip; gi_big_quiet_skip; gi_big_quiet_want; gi_big_quiet_op; go_big_quiet_on; refine wpQuietIn_nil ?_; intro _ hw'; obtain ⟨nq, hw''⟩ := hw'; subst hw'')
      gi_wp2
      refine wpIn_region_still_tail_round 10 (by kernel_rfl) (fun a w h => h) hmix (by kernel_rfl) ?_
      intro w3 hw3
      have HO3 : Hid (Only [] W w3) := by show Only _ _ _; rw [hw3]; exact ⟨rfl, rfl, rfl, Nat.le_refl _, fun _ _ _ => rfl⟩
      have d5a : w3.cell? ⟨w.heap.size, 0, none⟩ = some (.pointer (some ⟨p, 0, none⟩)) := by rw [hw3]; exact c5a
      have d5b : w3.cell? ⟨w.heap.size, 1, none⟩ = some (.int .i64 (pf : Int)) := by rw [hw3]; exact c5b
      have d6 : w3.cell? ⟨w.heap.size + 1, 0, none⟩ = some (.string all) := by rw [hw3]; exact c6
      clear hw3
      simp only [List.take_succ_cons, List.take_zero, List.drop_succ_cons, List.drop_zero]
      have hsum : IntKind.i64.wrap ((pf : Int) + (i : Int)) = ((pf + i : Nat) : Int) := by rw [IntWalk.i64_in _ (by omega)]; omega
      still_step
      still_step
      still_step
      still_step
      still_step
      still_step
      still_step
      still_step
      still_step
      still_step
      refine wpStill_nil ?_
      go_wp2_with fail
      refine (write_of (HP.out.st.only HO3.out (by simp) (by simp)) _ _).mono ?_
      rintro e w4 ⟨rfl, hst4, ho4⟩
      have hq4 : r.1.write ((pf : Int) + (i : Int)) (mkS (blk all.data.toList i)).data.toList = r.1.write ((pf + i : Nat) : Int) (blk all.data.toList i) := by rw [list_mkS, Int.natCast_add]
      rw [hq4] at hst4 ⊢
      have hO := (HO3.out.mono (T := [p, b]) (by simp)).tr ho4
      have HP4 := Lib.hid (HP.out.wrote (Nat.le_refl _) (by omega) hlt hO hst4)
      have HKF := Lib.hid (keeps_only HP.out.st hO W0.heap.size)
      have HKP : Hid (KpB (w1.heap.size + 1 + 1) W w4) := hO.block _ (blk_lt HP.out.b2) (by simp; omega)
      have c10 : w4.cell? ⟨w.heap.size + 1 + 1 + 1, 0, none⟩ = some (.int .i64 0) := blk_cell HP4.out.b10 0
      have f10 : w4.frozen? ⟨w.heap.size + 1 + 1 + 1, 0, none⟩ = false := blk_frozen HP4.out.b10 0
      clear hst4 ho4 hO hq4 d5a d5b d6 c5a c5b c6 c9 c11 hsum eA eB
      generalize r.1.write ((pf + i : Nat) : Int) (blk all.data.toList i) = q at *
      by_cases hq2 : q.2 = 0
      · have hne : (q.2 != 0) = false := by rw [hq2]; rfl
        have HQ2 := Lib.hid hq2
        have HST2 : Hid (putX pf all.data.toList was.data.toList true (pre ++ [⟨i, hi⟩]) s = (q.1, 0)) := by
          have h1 := HST.out
          rw [if_neg (by rintro ⟨h, _⟩; cases h), if_neg (by rw [hq2]; decide)] at h1
          exact h1
        clear hq2
        go_wp2_with fail
        gi_wp2
        exact ⟨HKF.out, HKP.out, by rw [HST2.out]; exact HP4.out, by rw [HST2.out]⟩
      · have hne : (q.2 != 0) = true := by rw [bne_iff_ne]; exact hq2
        have HQ2 := Lib.hid hq2
        have HST2 : Hid (putX pf all.data.toList was.data.toList true (pre ++ [⟨i, hi⟩]) s = q) := by
          have h1 := HST.out
          rw [if_neg (by rintro ⟨h, _⟩; cases h), if_pos hq2] at h1
          exact h1
        clear hq2
        go_wp2_with fail
        gi_wp2
        exact ⟨HKF.out.trans ((KeepsOthers.setCell _ _ _).from _), rfl, by rw [HST2.out]; exact HP4.out.err (Nat.le_refl _) (by omega) hlt _, by rw [HST2.out]; exact HQ2.out⟩
  case done =>
    rintro D ys W hD rfl ⟨hP, he⟩ hK
    have HP := Lib.hid hP
    have c10 : W.cell? ⟨w.heap.size + 1 + 1 + 1, 0, none⟩ = some (.int .i64 0) := blk_cell hP.b10 0
    have f10 : W.frozen? ⟨w.heap.size + 1 + 1 + 1, 0, none⟩ = false := blk_frozen hP.b10 0
    have H0 := Lib.hid he
    clear hP he hP0
    gi_wp2
    have hK' := (KeepsOthers.setCell W ⟨w.heap.size + 1 + 1 + 1, 0, none⟩ (.int .i64 0)).same D _ hK rfl
    refine ⟨by simp, .inl ⟨_, _, rfl, run_takeDeferred hK', ?_⟩⟩
    have hc5 := cell_kept (World.cell?_setCell_same' W ⟨w.heap.size + 1 + 1 + 1, 0, none⟩ (.int .i64 0) (by rw [c10]; rfl)) (grownBy_putObj' _ D (.deferred none)) (fun r e => by cases e; exact ⟨_, hK', rfl⟩)
    refine ⟨.int .i64 0, ?_, ?_⟩
    · simp [results, Tryz.f58, go_sem, hc5]
    · obtain ⟨k1, k2⟩ := st_set HP.out.st HP.out.only (g := w.heap.size + 1 + 1 + 1) (by omega) hlt (.int .i64 0)
      obtain ⟨k3, k4⟩ := st_put k1 k2 (D := D) (by omega) hK' (.deferred none)
      exact ⟨by rw [HFIN.out, H0.out], by rw [HFIN.out]; exact k3, k4⟩
  case stop =>
    rintro D c pre W hD hpre ⟨rfl, hP, he⟩ hK
    obtain ⟨rest, hrest⟩ := hpre
    have hst := putX_stop pf all.data.toList was.data.toList must pre rest s he
    rw [hrest] at hst
    have HFS : Hid (putL pf all.data.toList (partB s pf nb) must k0 (fr / 32) s = putX pf all.data.toList was.data.toList must pre s) := by show _ = _; rw [HFIN.out, hst]
    generalize putX pf all.data.toList was.data.toList must pre s = r at *
    have HP := Lib.hid hP
    have H0 := Lib.hid he
    have c10 : W.cell? ⟨w.heap.size + 1 + 1 + 1, 0, none⟩ = some (.int .i64 r.2) := blk_cell hP.b10 0
    clear hP he hP0 hrest hst HFIN
    gi_wp2
    refine ⟨by simp, .inl ⟨_, _, rfl, run_takeDeferred hK, ?_⟩⟩
    have hc5 := cell_kept c10 (grownBy_putObj' _ D (.deferred none)) (fun r e => by cases e; exact ⟨_, hK, rfl⟩)
    refine ⟨.int .i64 r.2, ?_, ?_⟩
    · simp [results, Tryz.f58, go_sem, hc5]
    · obtain ⟨k3, k4⟩ := st_put HP.out.st HP.out.only (D := D) (by omega) hK (.deferred none)
      exact ⟨by rw [HFS.out], by rw [HFS.out]; exact k3, k4⟩
end Go.Proofs.YtngcdkbnljoodaaGreatDoor

