/- Halves: the values, in memory; Open. No conditions beyond those typed. -/
import Derived.Test.YtngcdkbnljoodaaGreatDoorMrgF
namespace Go.Proofs.YtngcdkbnljoodaaGreatDoor
set_option linter.unusedVariables false
set_option linter.unusedSimpArgs false
open Go.RowKit Go.Proofs.YtngcdkbnljoodaaGreatDoorW.PrintWords

noncomputable def scanL (s : Bs) : List Bs := Classical.choose (isScan_exists s.length s (Nat.le_refl _))
theorem scanL_is (s : Bs) : ∃ t, IsScan s (scanL s) t := Classical.choose_spec (isScan_exists s.length s (Nat.le_refl _))
theorem scanL_of {s : Bs} {l : List Bs} {t : Bs} (h : IsScan s l t) : scanL s = l := by
  obtain ⟨u, hu⟩ := scanL_is s
  exact (hu.uniq h).1
/-- What stands in a half. -/
noncomputable def halfL (s : St) (k : Nat) : Int × List Bs × List Bs := readL (scanL (partB s (k * (s.n / 2)) (s.n / 2)))
/-- The values of halves. -/
structure HT where
  J : JS
  use : Nat
  age : Int
  sn : List Bs
  tl : List Bs
  down : Bool
def g1B : Bs := [103, 32, 49]
noncomputable def openU (s : St) : Nat := if (halfL s 0).1 < (halfL s 1).1 then 1 else 0
/-- A store is opened. -/
noncomputable def openH (s : St) : HT × Int :=
  if (halfL s (openU s)).1 = 0 then (⟨(freshS s 0 (s.n / 2) [g1B, liveB]).1, 0, 1, [], [], false⟩, (freshS s 0 (s.n / 2) [g1B, liveB]).2)
  else (⟨⟨(openS s (openU s * (s.n / 2)) (s.n / 2) (frames (scanL (partB s (openU s * (s.n / 2)) (s.n / 2)))).length).1, scanL (partB s (openU s * (s.n / 2)) (s.n / 2)), (frames (scanL (partB s (openU s * (s.n / 2)) (s.n / 2)))).length, false⟩,
      openU s, (halfL s (openU s)).1, (halfL s (openU s)).2.1, (halfL s (openU s)).2.2, false⟩, (openS s (openU s * (s.n / 2)) (s.n / 2) (frames (scanL (partB s (openU s * (s.n / 2)) (s.n / 2)))).length).2)
theorem ageL_range (r : Bs) : 0 ≤ ageL r ∧ ageL r ≤ 9223372036854775807 := by
  unfold ageL
  split
  · split
    · rename_i v h
      have := atoi_bound h
      split
      · rename_i h2; omega
      · omega
    · omega
  · omega
theorem readL_cons (r : Bs) (t : List Bs) : readL (r :: t) = if ageL r = 0 then (0, [], []) else match bodyL t false [] [] with
    | some (sn, tl) => (ageL r, sn, tl)
    | none => (0, [], []) := rfl
theorem readL_range (l : List Bs) : 0 ≤ (readL l).1 ∧ (readL l).1 ≤ 9223372036854775807 := by
  cases l with
  | nil => exact ⟨Int.le_refl _, by show (0 : Int) ≤ _; omega⟩
  | cons r t =>
    rw [readL_cons]
    have := ageL_range r
    split
    · exact ⟨Int.le_refl _, by show (0 : Int) ≤ _; omega⟩
    · split
      · exact this
      · exact ⟨Int.le_refl _, by show (0 : Int) ≤ _; omega⟩
theorem readL_zero (l : List Bs) (h : (readL l).1 = 0) : readL l = (0, [], []) := by
  cases l with
  | nil => rfl
  | cons r t =>
    rw [readL_cons] at h ⊢
    by_cases h1 : ageL r = 0
    · rw [if_pos h1]
    · rw [if_neg h1] at h ⊢
      split
      · rename_i h2
        rw [h2] at h
        exact absurd h h1
      · rfl
def halC (p : Nat) (use age : Int) (vs vt : Value) (j : Option Addr) (d : Bool) : Array Value := #[.pointer (some ⟨p, 0, none⟩), .int .i64 use, .int .i64 age, vs, vt, .pointer j, .bool d]
/-- The blocks of halves. -/
structure HB where
  h : Nat
  j : Nat
  rb : Option Nat
  bs : Option Nat
  bt : Option Nat
def HB.own (B : HB) : List Nat := [B.h, B.j] ++ (B.rb.toList ++ (B.bs.toList ++ B.bt.toList))
/-- Halves, in memory. -/
structure HalIs (w : World) (B : HB) (p b : Nat) (H : HT) : Prop where
  st : StoreIs w p b H.J.s
  n4 : 4 ≤ H.J.s.n
  u1 : H.use ≤ 1
  ex : ∃ vs vt, w.heap[B.h]? = some (.cells (halC p H.use H.age vs vt (some ⟨B.j, 0, none⟩) H.down) 66 (0, 0)) ∧ Rows2 0 w vs vt H.sn H.tl ∧ vs.ownBlock = B.bs ∧ vt.ownBlock = B.bt
  jn : JnIs w B.j B.rb p (H.use * (H.J.s.n / 2)) (H.J.s.n / 2) H.J.l H.J.fin H.J.o
  ok : H.J.Ok (H.use * (H.J.s.n / 2)) (H.J.s.n / 2)
  r1 : ∀ x, B.rb = some x → B.bs ≠ some x ∧ B.bt ≠ some x
  ag : 1 ≤ H.age ∧ H.age ≤ 9223372036854775807
  sl : H.sn.length ≤ H.J.l.length
  tll : H.tl.length ≤ H.J.l.length
theorem open_null (w : World) : Calls Tryz.prog 7 #[.pointer none] w fun e w' => e = .returned (.tuple #[.pointer none, .int .i64 1]) ∧ w = w' := by
  go_enter Tryz.func7, Tryz.ntmps7
  go_wp2_with fail
  go_ret2
  exact ⟨rfl, rfl⟩
theorem open_few {w : World} {p b : Nat} {s : St} (h : StoreIs w p b s) (hn : s.n < 4) : Calls Tryz.prog 7 #[.pointer (some ⟨p, 0, none⟩)] w fun e w' => e = .returned (.tuple #[.pointer none, .int .i64 1]) ∧ w = w' := by
  have HBK := Lib.hid (blocks_of h)
  have h4 : (s.n : Int) < 4 := by omega
  go_enter Tryz.func7, Tryz.ntmps7
  go_wp2_with fail
  refine (HBK.out).mono ?_
  rintro e w2 ⟨rfl, hw2⟩
  subst w2
  go_wp2_with fail
  go_ret2
  exact ⟨rfl, rfl⟩
/-- What is read so far. -/
noncomputable def rdL (s : St) (k i : Nat) : Int × List Bs × List Bs := if i < k then halfL s i else (0, [], [])
def arrC (a0 a1 : Int) (v0 t0 v1 t1 : Value) : Array Value := #[.int .i64 a0, v0, t0, .int .i64 a1, v1, t1]
structure OpIn (w wq : World) (p b : Nat) (s : St) (ab k : Nat) : Prop where
  st : StoreIs wq p b s
  on : Only [] w wq
  ge : w.heap.size ≤ ab
  ex : ∃ v0 t0 v1 t1, wq.heap[ab]? = some (.cells (arrC (rdL s k 0).1 (rdL s k 1).1 v0 t0 v1 t1) 59 (0, 0)) ∧ Rows2 w.heap.size wq v0 t0 (rdL s k 0).2.1 (rdL s k 0).2.2 ∧ Rows2 w.heap.size wq v1 t1 (rdL s k 1).2.1 (rdL s k 1).2.2
theorem Rows2.mono {base base' : Nat} {w : World} {vs vt : Value} {sn tl : List Bs} (h : Rows2 base w vs vt sn tl) (hb : base' ≤ base) : Rows2 base' w vs vt sn tl := ⟨own_mono h.s hb, own_mono h.t hb, h.ne⟩
theorem OpIn.put {w wr w3 w4 : World} {p b : Nat} {s : St} {ab k : Nat} (h : OpIn w wr p b s ab k) (ho : Only [] wr w3) (ho4 : Only [ab] w3 w4) {v0 t0 v1 t1 : Value} (hb : w4.heap[ab]? = some (.cells (arrC (rdL s (k + 1) 0).1 (rdL s (k + 1) 1).1 v0 t0 v1 t1) 59 (0, 0)))
    (hr0 : Rows2 w.heap.size w3 v0 t0 (rdL s (k + 1) 0).2.1 (rdL s (k + 1) 0).2.2) (hr1 : Rows2 w.heap.size w3 v1 t1 (rdL s (k + 1) 1).2.1 (rdL s (k + 1) 1).2.2) : OpIn w w4 p b s ab (k + 1) := by
  obtain ⟨_, _, _, _, hb0, _, _⟩ := h.ex
  have hb3 := ho.blk hb0 (by simp)
  have hst := h.st.only ho (by simp) (by simp)
  have ht : ∀ g, g ∈ [ab] → ∃ cs t f, w3.heap[g]? = some (.cells cs t f) ∧ t ≠ 9 := fun g hg => by rw [List.mem_singleton.1 hg]; exact ⟨_, _, _, hb3, by decide⟩
  refine ⟨hst.only ho4 ?_ ?_, (h.on.tr ho).trans ho4 (by simp; exact h.ge), h.ge, v0, t0, v1, t1, hb, hr0.off ho4 ht, hr1.off ho4 ht⟩
  · have := ty_ne (StoreIs.typeP hst) ⟨_, _, hb3⟩ (by decide); simp; exact this
  · have := ty_ne (StoreIs.typeB hst) ⟨_, _, hb3⟩ (by decide); simp; exact this
theorem OpIn.done {w wr : World} {p b : Nat} {s : St} {ab : Nat} (h : OpIn w wr p b s ab 2) : ∃ a1 n1 q1 a2 n2 q2 a3 n3 q3 a4 n4 q4, wr.heap[ab]? = some (.cells (arrC (halfL s 0).1 (halfL s 1).1 (.slice a1 n1 q1) (.slice a2 n2 q2) (.slice a3 n3 q3) (.slice a4 n4 q4)) 59 (0, 0)) ∧
    Rows2 w.heap.size wr (.slice a1 n1 q1) (.slice a2 n2 q2) (halfL s 0).2.1 (halfL s 0).2.2 ∧ Rows2 w.heap.size wr (.slice a3 n3 q3) (.slice a4 n4 q4) (halfL s 1).2.1 (halfL s 1).2.2 := by
  obtain ⟨v0, t0, v1, t1, hb, hr0, hr1⟩ := h.ex
  obtain ⟨a1, n1, q1, rfl⟩ := own_slice hr0.s
  obtain ⟨a2, n2, q2, rfl⟩ := own_slice hr0.t
  obtain ⟨a3, n3, q3, rfl⟩ := own_slice hr1.s
  obtain ⟨a4, n4, q4, rfl⟩ := own_slice hr1.t
  exact ⟨a1, n1, q1, a2, n2, q2, a3, n3, q3, a4, n4, q4, hb, hr0, hr1⟩
/-- A half is looked up. -/
theorem look_read {w : World} {p b : Nat} {s : St} (h : StoreIs w p b s) (k : Nat) (hk : k ≤ 1) (h4 : 4 ≤ s.n) : Calls Tryz.prog 32 #[.pointer (some ⟨p, 0, none⟩), .int .i64 ((k * (s.n / 2) : Nat) : Int), .int .i64 ((s.n / 2 : Nat) : Int)] w fun e w' => ∃ v, e = .returned v ∧
    Only [] w w' ∧ (Vars w' → Calls Tryz.prog 31 #[v] w' fun e w2 => ∃ a1 n1 q1 a2 n2 q2, e = .returned (.agg #[.int .i64 (halfL s k).1, .slice a1 n1 q1, .slice a2 n2 q2]) ∧ Only [] w' w2 ∧ Rows2 w'.heap.size w2 (.slice a1 n1 q1) (.slice a2 n2 q2) (halfL s k).2.1 (halfL s k).2.2) := by
  have hh : s.Has (k * (s.n / 2)) (s.n / 2) := by
    constructor
    · omega
    · rcases (show k = 0 ∨ k = 1 by omega) with rfl | rfl <;> omega
  have hwf := h.wf
  refine (look_of h _ _).mono ?_
  rintro e w' ⟨hb, (⟨hB, _⟩ | ⟨a', c', ha, hc, _, v, l, t, rfl, hsc, hown⟩)⟩
  · rw [isB_has hh] at hB; cases hB
  · have e1 : k * (s.n / 2) = a' := by omega
    have e2 : s.n / 2 = c' := by omega
    subst e1; subst e2
    refine ⟨v, rfl, Only.of_below hb, fun hv => ?_⟩
    have hpl := partB_length hwf hh
    have hle : (frames l).length ≤ 32 * (s.n / 2) := by
      have := congrArg List.length hsc.eq
      rw [hpl, List.length_append] at this
      omega
    have hln := frames_count l
    have hhi := hwf.hi
    refine (read_of hown (by omega) (fun x hx => by have := (hsc.ok x hx).2; omega) hv).mono ?_
    rintro e2 w2 ⟨vs, vt, rfl, hr, ho⟩
    have hhl : halfL s k = readL l := by unfold halfL; rw [scanL_of hsc]
    obtain ⟨a1, n1, q1, rfl⟩ := own_slice hr.s
    obtain ⟨a2, n2, q2, rfl⟩ := own_slice hr.t
    rw [hhl]
    exact ⟨a1, n1, q1, a2, n2, q2, rfl, ho, hr⟩
theorem bodyL_len : ∀ (l : List Bs) (is : Bool) (sn tl : List Bs) {a c : List Bs}, bodyL l is sn tl = some (a, c) → a.length ≤ sn.length + l.length ∧ c.length ≤ tl.length + l.length
  | [], is, sn, tl, a, c, h => by
    unfold bodyL at h
    split at h
    · cases h; exact ⟨Nat.le_refl _, Nat.le_refl _⟩
    · cases h
  | r :: t, is, sn, tl, a, c, h => by
    unfold bodyL at h
    split at h
    · have := bodyL_len t true sn tl h; simp only [List.length_cons]; omega
    · split at h
      · have := bodyL_len t is _ tl h; simp only [List.length_cons, List.length_append, List.length_nil] at this ⊢; omega
      · split at h
        · have := bodyL_len t is sn _ h; simp only [List.length_cons, List.length_append, List.length_nil] at this ⊢; omega
        · cases h
theorem readL_len (l : List Bs) : (readL l).2.1.length ≤ l.length ∧ (readL l).2.2.length ≤ l.length := by
  cases l with
  | nil => exact ⟨Nat.le_refl _, Nat.le_refl _⟩
  | cons r t =>
    rw [readL_cons]
    split
    · exact ⟨Nat.zero_le _, Nat.zero_le _⟩
    · split
      · rename_i h
        have := bodyL_len t false [] [] h
        simp only [List.length_nil, List.length_cons] at this ⊢
        omega
      · exact ⟨Nat.zero_le _, Nat.zero_le _⟩
theorem JS.apps_all {pf nb : Nat} : ∀ (rs : List Bs) {A : JS}, (JS.apps pf nb A rs).2 = 0 → (JS.apps pf nb A rs).1.l = A.l ++ rs
  | [], A, _ => by rw [JS.apps, List.append_nil]
  | r :: t, A, h => by
    rw [JS.apps] at h ⊢
    by_cases h0 : (A.app pf nb r).2 = 0
    · rw [if_pos h0] at h ⊢
      rw [JS.apps_all t h]
      have : (A.app pf nb r).1.l = A.l ++ [r] := by
        unfold JS.app at h0 ⊢
        split at h0
        · simp at h0
        · split at h0
          · simp at h0
          · split at h0
            · simp at h0
            · split at h0
              · rename_i h1 h2 h3 h4
                rw [if_neg h1, if_neg h2, if_neg h3, if_pos h4]
              · rename_i h4; exact absurd h0 h4
      rw [this, List.append_assoc]; rfl
    · rw [if_neg h0] at h; exact absurd h h0
theorem fresh_all {s : St} {pf nb : Nat} {rs : List Bs} (h : (freshS s pf nb rs).2 = 0) : (freshS s pf nb rs).1.l = rs := by
  unfold freshS at h ⊢
  by_cases h0 : (openS s pf nb 0).2 ≠ 0
  · rw [if_pos h0] at h; exact absurd h h0
  · rw [if_neg h0] at h ⊢
    rw [JS.apps_all rs h]; rfl
/-- A half is opened as a journal. -/
theorem part_half {w : World} {p b : Nat} {s : St} (h : StoreIs w p b s) (pf nb : Nat) (hh : s.Has pf nb) : Calls Tryz.prog 34 #[.pointer (some ⟨p, 0, none⟩), .int .i64 (pf : Int), .int .i64 (nb : Int)] w fun e w' => ∃ (po : Option Addr) (v : Value),
    e = .returned (.tuple #[.pointer po, v, .int .i64 (openS s pf nb (frames (scanL (partB s pf nb))).length).2]) ∧ Only [p, b] w w' ∧ StoreIs w' p b (openS s pf nb (frames (scanL (partB s pf nb))).length).1 ∧
    ((openS s pf nb (frames (scanL (partB s pf nb))).length).2 = 0 → ∃ j rb, po = some ⟨j, 0, none⟩ ∧ w.heap.size ≤ j ∧ (∀ g, rb = some g → w.heap.size ≤ g) ∧ JnIs w' j rb p pf nb (scanL (partB s pf nb)) (frames (scanL (partB s pf nb))).length false) := by
  refine (part_yes h pf nb hh).mono ?_
  rintro e w' ⟨hO, (⟨hB, _⟩ | ⟨a', c', l', t', ha, hc', _, hsc', hst, hre⟩)⟩
  · rw [isB_has hh] at hB; cases hB
  · obtain rfl : pf = a' := by omega
    obtain rfl : nb = c' := by omega
    rw [scanL_of hsc']
    rcases hre with ⟨h9, rfl⟩ | ⟨h0, j, rb, v, hj, hrb, rfl, hjn, _⟩
    · exact ⟨_, _, rfl, hO, hst, fun h0 => absurd h0 h9⟩
    · exact ⟨_, _, by rw [h0], hO, hst, fun _ => ⟨j, rb, rfl, hj, hrb, hjn⟩⟩
theorem scan_len {s : St} (hs : s.Wf) {pf nb : Nat} (hh : s.Has pf nb) : (frames (scanL (partB s pf nb))).length ≤ 32 * nb ∧ (scanL (partB s pf nb)).length ≤ (frames (scanL (partB s pf nb))).length := by
  obtain ⟨t, ht⟩ := scanL_is (partB s pf nb)
  have := congrArg List.length ht.eq
  rw [partB_length hs hh, List.length_append] at this
  exact ⟨by omega, frames_count _⟩
theorem half_has {s : St} {k : Nat} (hk : k ≤ 1) (h4 : 4 ≤ s.n) : s.Has (k * (s.n / 2)) (s.n / 2) := by
  constructor
  · omega
  · rcases (show k = 0 ∨ k = 1 by omega) with rfl | rfl <;> omega
theorem begin_row (w : World) (n : Nat) (hn : n = w.heap.size) (p b : Nat) (hp : p < w.heap.size) (hb : b < w.heap.size) (t : TypeId) : RowA (w.alloc (.cells #[.string { data := #[103, 32, 49] }, .string { data := #[108, 105, 118, 101] }] t)) (.slice (some ⟨n, 0, none⟩) 2 2) [g1B, liveB] p b := by
  subst hn
  have hB := blk_new w (.cells #[.string { data := #[103, 32, 49] }, .string { data := #[108, 105, 118, 101] }] t)
  refine ⟨_, _, rfl, fun k x hx => ⟨_, rfl, by show w.heap.size ≠ p; omega, by show w.heap.size ≠ b; omega, ?_⟩⟩
  rw [addr_add0]
  match k, hx with
  | 0, hx => cases hx; exact blk_cell hB 0
  | 1, hx => cases hx; exact blk_cell hB 1
  | k + 2, hx => simp at hx
/-- The end of an opening. -/
theorem open_fin {w W w' : World} {hh p b j use : Nat} {rb : Option Nat} {age : Int} {sn tl : List Bs} {vs vt : Value} {s : St} {A : JS} (hst : StoreIs W p b s) (hon : Only [] w W) (hge : w.heap.size ≤ hh) (hb : W.heap[hh]? = some (.cells (halC p use age vs vt none false) 66 (0, 0)))
    (hr : Rows2 w.heap.size W vs vt sn tl) (ho : Only [p, b] W w') (hst' : StoreIs w' p b A.s) (hn : A.s.n = s.n) (h4 : 4 ≤ s.n) (hu : use ≤ 1) (hok : A.Ok (use * (s.n / 2)) (s.n / 2)) (hj : W.heap.size ≤ j) (hrb : ∀ g, rb = some g → W.heap.size ≤ g)
    (hjn : JnIs w' j rb p (use * (s.n / 2)) (s.n / 2) A.l A.fin A.o) (ha : 1 ≤ age ∧ age ≤ 9223372036854775807) (hsl : sn.length ≤ A.l.length) (htl : tl.length ≤ A.l.length) :
    Only [p, b] w (w'.setCell ⟨hh, 5, none⟩ (.pointer (some ⟨j, 0, none⟩))) ∧ (∀ x, x ∈ (HB.mk hh j rb vs.ownBlock vt.ownBlock).own → w.heap.size ≤ x) ∧
      HalIs (w'.setCell ⟨hh, 5, none⟩ (.pointer (some ⟨j, 0, none⟩))) ⟨hh, j, rb, vs.ownBlock, vt.ownBlock⟩ p b ⟨A, use, age, sn, tl, false⟩ := by
  have hon2 : Only [p, b] w w' := (hon.mono (T := [p, b]) (by simp)).tr ho
  have hsz := hon.size
  have n1 := ty_ne (StoreIs.typeP hst) ⟨_, _, hb⟩ (by decide)
  have n2 := ty_ne (StoreIs.typeB hst) ⟨_, _, hb⟩ (by decide)
  have hb' := ho.blk hb (by simp; exact ⟨fun e => n1 e.symm, fun e => n2 e.symm⟩)
  have hset : Only [hh] w' (w'.setCell ⟨hh, 5, none⟩ (.pointer (some ⟨j, 0, none⟩))) := (Only.refl _ _).setCell (p := ⟨hh, 5, none⟩) (Or.inl (by simp)) _
  have ht : ∀ g, g ∈ [hh] → ∃ cs t f, w'.heap[g]? = some (.cells cs t f) ∧ t ≠ 9 := fun g hg => by rw [List.mem_singleton.1 hg]; exact ⟨_, _, _, hb', by decide⟩
  have hr' := hr.off ho (fun g hg => store_types hst g hg)
  have hls := hr'.s.lt
  have hlt := hr'.t.lt
  refine ⟨hon2.trans hset (by simp; exact Or.inr hge), ?_, hst'.only hset (by simp; exact n1) (by simp; exact n2), by rw [hn]; exact h4, hu, ⟨vs, vt, blk_set hb' 5 _, ⟨own_mono (hr'.off hset ht).s (Nat.zero_le _), own_mono (hr'.off hset ht).t (Nat.zero_le _), hr.ne⟩, rfl, rfl⟩, ?_, ?_, ?_, ha, hsl, htl⟩
  · intro x hx
    unfold HB.own at hx
    simp only [List.mem_append, List.mem_cons, List.not_mem_nil, or_false, Option.mem_toList, Option.mem_def] at hx
    rcases hx with (rfl | rfl) | hx | hx | hx
    · exact hge
    · exact Nat.le_trans hsz hj
    · exact Nat.le_trans hsz (hrb x hx)
    · exact (hr.s.lt x hx).1
    · exact (hr.t.lt x hx).1
  · rw [hn]
    refine hjn.only hset (by simp; intro e; have := blk_lt hb; omega) (fun g hg => ?_)
    simp
    intro e
    have := hrb g hg
    have := blk_lt hb
    omega
  · rw [hn]; exact hok
  · intro x hx
    have h1 := hrb x hx
    constructor
    · intro e; have := (hr.s.lt x e).2; omega
    · intro e; have := (hr.t.lt x e).2; omega
def OpenHP (s : St) (p b : Nat) (w : World) (e : Ending) (w' : World) : Prop :=
  Only [p, b] w w' ∧ StoreIs w' p b (openH s).1.J.s ∧ (openH s).1.J.s.n = s.n ∧ ∃ po, e = .returned (.tuple #[.pointer po, .int .i64 (openH s).2]) ∧
    ((openH s).2 ≠ 0 → po = none) ∧ ((openH s).2 = 0 → ∃ B : HB, po = some ⟨B.h, 0, none⟩ ∧ (∀ x, x ∈ B.own → w.heap.size ≤ x) ∧ HalIs w' B p b (openH s).1)
set_option maxHeartbeats 4000000 in
set_option maxRecDepth 100000 in
theorem openH_of {w : World} {p b : Nat} {s : St} (h : StoreIs w p b s) (h4 : 4 ≤ s.n) (hv : Vars w) :
    Calls Tryz.prog 7 #[.pointer (some ⟨p, 0, none⟩)] w (OpenHP s p b w) := by
  have HBK := Lib.hid (blocks_of h)
  have HS := Lib.hid h
  have HV := Lib.hid hv
  have g4 : ¬ (s.n : Int) < 4 := by omega
  have H4 := Lib.hid h4
  obtain ⟨N, hN⟩ : ∃ N : Nat, N = s.n / 2 := ⟨_, rfl⟩
  have HN := Lib.hid hN
  have HB0 : Hid (∀ W, StoreIs W p b s → Calls Tryz.prog 30 #[.pointer (some ⟨p, 0, none⟩), .int .i64 0] W fun e w' => e = .returned (.tuple #[.int .i64 0, .int .i64 (N : Int)]) ∧ W = w') := fun W hs => by
    have := hblocks_of hs 0 (by omega)
    rw [Nat.zero_mul, ← hN] at this
    exact this
  have HB1 : Hid (∀ W, StoreIs W p b s → Calls Tryz.prog 30 #[.pointer (some ⟨p, 0, none⟩), .int .i64 1] W fun e w' => e = .returned (.tuple #[.int .i64 (N : Int), .int .i64 (N : Int)]) ∧ W = w') := fun W hs => by
    have := hblocks_of hs 1 (by omega)
    rw [Nat.one_mul, ← hN] at this
    exact this
  have HL0 : Hid (∀ W, StoreIs W p b s → _) := fun W hs => look_read hs 0 (by omega) h4
  have HL1 : Hid (∀ W, StoreIs W p b s → _) := fun W hs => look_read hs 1 (by omega) h4
  rw [Nat.zero_mul, ← hN, show ((0 : Nat) : Int) = (0 : Int) from rfl] at HL0
  rw [Nat.one_mul, ← hN] at HL1
  clear h hv h4 hN
  go_enter Tryz.func7, Tryz.ntmps7
  go_wp2_with fail
  refine (HBK.out).mono ?_
  rintro e w2 ⟨rfl, hw2⟩
  subst w2
  go_wp2_with fail
  have HI : Hid (OpIn w (w.alloc (.cells (arrC 0 0 (.slice none 0 0) (.slice none 0 0) (.slice none 0 0) (.slice none 0 0)) 59)) p b s w.heap.size 0) :=
    ⟨HS.out.alloc _, (Only.refl _ _).alloc _, Nat.le_refl _, _, _, _, _, blk_new w _, Rows2.nil _ _, Rows2.nil _ _⟩
  unfold arrC at HI
  obtain ⟨ab, hab⟩ : ∃ ab, ab = w.heap.size := ⟨_, rfl⟩
  rw [← hab] at HI
  simp only [← hab]
  clear hab
  go_loopw [19] (fun iv wq => (iv = .int .i64 0 ∧ Hid (OpIn w wq p b s ab 0)) ∨ (iv = .int .i64 1 ∧ Hid (OpIn w wq p b s ab 1)) ∨ (iv = .int .i64 2 ∧ Hid (OpIn w wq p b s ab 2))) (fun iv _ => (2 - intOf iv).toNat)
  case atStart => exact Or.inl ⟨rfl, HI⟩
  case round =>
    clear HI
    rcases hrel with ⟨rfl, HI⟩ | ⟨rfl, HI⟩ | ⟨rfl, HI⟩
    · go_wp2_with fail
      refine (HB0.out _ HI.out.st).mono ?_
      rintro e w2 ⟨rfl, hw2⟩
      subst w2
      go_wp2_with fail
      refine (HL0.out _ HI.out.st).mono ?_
      rintro e w2 ⟨v, rfl, ho2, hrd⟩
      have HO2 := Lib.hid ho2
      have HRD := Lib.hid (hrd (HV.out.only (HI.out.on.tr ho2)))
      clear ho2 hrd
      go_wp2_with fail
      refine (HRD.out).mono ?_
      rintro e w3 ⟨a1, n1, q1, a2, n2, q2, rfl, ho3, hr3⟩
      have HO3 := Lib.hid (HO2.out.tr ho3)
      have HR3 := Lib.hid hr3
      clear ho3 hr3
      obtain ⟨v0, t0, v1, t1, hb, hr0, hr1⟩ := HI.out.ex
      have hb3 := HO3.out.blk hb (by simp)
      have HI2 : Hid (OpIn w (((w3.setCell ⟨ab, 0, none⟩ (.int .i64 (halfL s 0).1)).setCell ⟨ab, 1, none⟩ (.slice a1 n1 q1)).setCell ⟨ab, 2, none⟩ (.slice a2 n2 q2)) p b s ab 1) :=
        HI.out.put HO3.out ((((Only.refl _ _).setCell (p := ⟨ab, 0, none⟩) (Or.inl (by simp)) _).setCell (p := ⟨ab, 1, none⟩) (Or.inl (by simp)) _).setCell (p := ⟨ab, 2, none⟩) (Or.inl (by simp)) _)
          (blk_set (blk_set (blk_set hb3 0 (.int .i64 (halfL s 0).1)) 1 (.slice a1 n1 q1)) 2 (.slice a2 n2 q2)) (HR3.out.mono (by have := HI.out.on.size; have := HO2.out.size; omega)) (hr1.keep HO3.out)
      obtain ⟨x0, x1, x2, hx⟩ : ∃ x0 x1 x2, w3.cell? ⟨ab, 0, none⟩ = some x0 ∧ w3.cell? ⟨ab, 1, none⟩ = some x1 ∧ w3.cell? ⟨ab, 2, none⟩ = some x2 := ⟨_, _, _, blk_cell hb3 0, blk_cell hb3 1, blk_cell hb3 2⟩
      obtain ⟨c0, c1, c2⟩ := hx
      have f0 := blk_frozen hb3 0
      have f1 := blk_frozen hb3 1
      have f2 := blk_frozen hb3 2
      clear hb hr0 hr1 hb3 HI HO2 HRD HR3
      go_wp2_with fail
      go_roundw
      case rel => exact Or.inr (Or.inl ⟨rfl, HI2⟩)
      case measure => simp [intOf]
    · go_wp2_with fail
      refine (HB1.out _ HI.out.st).mono ?_
      rintro e w2 ⟨rfl, hw2⟩
      subst w2
      go_wp2_with fail
      refine (HL1.out _ HI.out.st).mono ?_
      rintro e w2 ⟨v, rfl, ho2, hrd⟩
      have HO2 := Lib.hid ho2
      have HRD := Lib.hid (hrd (HV.out.only (HI.out.on.tr ho2)))
      clear ho2 hrd
      go_wp2_with fail
      refine (HRD.out).mono ?_
      rintro e w3 ⟨a1, n1, q1, a2, n2, q2, rfl, ho3, hr3⟩
      have HO3 := Lib.hid (HO2.out.tr ho3)
      have HR3 := Lib.hid hr3
      clear ho3 hr3
      obtain ⟨v0, t0, v1, t1, hb, hr0, hr1⟩ := HI.out.ex
      have hb3 := HO3.out.blk hb (by simp)
      have HI2 : Hid (OpIn w (((w3.setCell ⟨ab, 3, none⟩ (.int .i64 (halfL s 1).1)).setCell ⟨ab, 4, none⟩ (.slice a1 n1 q1)).setCell ⟨ab, 5, none⟩ (.slice a2 n2 q2)) p b s ab 2) :=
        HI.out.put HO3.out ((((Only.refl _ _).setCell (p := ⟨ab, 3, none⟩) (Or.inl (by simp)) _).setCell (p := ⟨ab, 4, none⟩) (Or.inl (by simp)) _).setCell (p := ⟨ab, 5, none⟩) (Or.inl (by simp)) _)
          (blk_set (blk_set (blk_set hb3 3 (.int .i64 (halfL s 1).1)) 4 (.slice a1 n1 q1)) 5 (.slice a2 n2 q2)) (hr0.keep HO3.out) (HR3.out.mono (by have := HI.out.on.size; have := HO2.out.size; omega))
      obtain ⟨x0, x1, x2, hx⟩ : ∃ x0 x1 x2, w3.cell? ⟨ab, 3, none⟩ = some x0 ∧ w3.cell? ⟨ab, 4, none⟩ = some x1 ∧ w3.cell? ⟨ab, 5, none⟩ = some x2 := ⟨_, _, _, blk_cell hb3 3, blk_cell hb3 4, blk_cell hb3 5⟩
      obtain ⟨c0, c1, c2⟩ := hx
      have f0 := blk_frozen hb3 3
      have f1 := blk_frozen hb3 4
      have f2 := blk_frozen hb3 5
      clear hb hr0 hr1 hb3 HI HO2 HRD HR3
      go_wp2_with fail
      go_roundw
      case rel => exact Or.inr (Or.inr ⟨rfl, HI2⟩)
      case measure => simp [intOf]
    · obtain ⟨a1, n1, q1, a2, n2, q2, a3, n3, q3, a4, n4, q4, hb, hr0, hr1⟩ := HI.out.done
      have HNE : Hid (p ≠ wr.heap.size ∧ b ≠ wr.heap.size) := ⟨by have := HI.out.st.lt.1; omega, by have := HI.out.st.lt.2; omega⟩
      have HS0 : Hid (StoreIs (wr.alloc (.cells (halC p 0 0 (.slice none 0 0) (.slice none 0 0) none false) 66)) p b s) := HI.out.st.alloc _
      have HO0 : Hid (Only [] w (wr.alloc (.cells (halC p 0 0 (.slice none 0 0) (.slice none 0 0) none false) 66))) := HI.out.on.alloc _
      have HBH := Lib.hid (blk_new wr (.cells (halC p 0 0 (.slice none 0 0) (.slice none 0 0) none false) 66))
      have HBA := Lib.hid (blk_alloc hb (.cells (halC p 0 0 (.slice none 0 0) (.slice none 0 0) none false) 66))
      have HR0 := Lib.hid (hr0.keep ((Only.refl _ wr).alloc (.cells (halC p 0 0 (.slice none 0 0) (.slice none 0 0) none false) 66)))
      have HR1 := Lib.hid (hr1.keep ((Only.refl _ wr).alloc (.cells (halC p 0 0 (.slice none 0 0) (.slice none 0 0) none false) 66)))
      have HGE : Hid (w.heap.size ≤ wr.heap.size) := HI.out.on.size
      have HAB : Hid (ab ≠ wr.heap.size) := by have := blk_lt hb; show _ ≠ _; omega
      unfold halC at HS0 HO0 HBH HBA HR0 HR1
      clear hb hr0 hr1 HI
      go_upto_region 12 with (fail)
      generalize wr.alloc (.cells #[.pointer (some ⟨p, 0, none⟩), .int .i64 0, .int .i64 0, .slice none 0 0, .slice none 0 0, .pointer none, .bool false] 66) = W0 at *
      generalize wr.heap.size = hh at *
      have c0 : W0.cell? ⟨ab, 0, none⟩ = some (.int .i64 (halfL s 0).1) := blk_cell HBA.out 0
      have c1 : W0.cell? ⟨ab, 1, none⟩ = some (.slice a1 n1 q1) := blk_cell HBA.out 1
      have c2 : W0.cell? ⟨ab, 2, none⟩ = some (.slice a2 n2 q2) := blk_cell HBA.out 2
      have c3 : W0.cell? ⟨ab, 3, none⟩ = some (.int .i64 (halfL s 1).1) := blk_cell HBA.out 3
      have c4 : W0.cell? ⟨ab, 4, none⟩ = some (.slice a3 n3 q3) := blk_cell HBA.out 4
      have c5 : W0.cell? ⟨ab, 5, none⟩ = some (.slice a4 n4 q4) := blk_cell HBA.out 5
      have h1 : W0.cell? ⟨hh, 1, none⟩ = some (.int .i64 0) := blk_cell HBH.out 1
      have h2 : W0.cell? ⟨hh, 2, none⟩ = some (.int .i64 0) := blk_cell HBH.out 2
      have h3 : W0.cell? ⟨hh, 3, none⟩ = some (.slice none 0 0) := blk_cell HBH.out 3
      have h4 : W0.cell? ⟨hh, 4, none⟩ = some (.slice none 0 0) := blk_cell HBH.out 4
      have k1 : W0.frozen? ⟨hh, 1, none⟩ = false := blk_frozen HBH.out 1
      have k2 : W0.frozen? ⟨hh, 2, none⟩ = false := blk_frozen HBH.out 2
      have k3 : W0.frozen? ⟨hh, 3, none⟩ = false := blk_frozen HBH.out 3
      have k4 : W0.frozen? ⟨hh, 4, none⟩ = false := blk_frozen HBH.out 4
      have hne : ab ≠ hh := HAB.out
      have hne2 : hh ≠ ab := hne.symm
      by_cases hlt : (halfL s 0).1 < (halfL s 1).1
      · have HBK3 : Hid (((((W0.setCell ⟨hh, 1, none⟩ (.int .i64 1)).setCell ⟨hh, 2, none⟩ (.int .i64 (halfL s 1).1)).setCell ⟨hh, 3, none⟩ (.slice a3 n3 q3)).setCell ⟨hh, 4, none⟩ (.slice a4 n4 q4)).heap[hh]? = some (.cells (halC p 1 (halfL s 1).1 (.slice a3 n3 q3) (.slice a4 n4 q4) none false) 66 (0, 0))) := blk_set (blk_set (blk_set (blk_set HBH.out 1 (.int .i64 1)) 2 (.int .i64 (halfL s 1).1)) 3 (.slice a3 n3 q3)) 4 (.slice a4 n4 q4)
        have HON3 : Hid (Only [hh] W0 ((((W0.setCell ⟨hh, 1, none⟩ (.int .i64 1)).setCell ⟨hh, 2, none⟩ (.int .i64 (halfL s 1).1)).setCell ⟨hh, 3, none⟩ (.slice a3 n3 q3)).setCell ⟨hh, 4, none⟩ (.slice a4 n4 q4))) := ((((Only.refl _ _).setCell (p := ⟨hh, 1, none⟩) (Or.inl (by simp)) _).setCell (p := ⟨hh, 2, none⟩) (Or.inl (by simp)) _).setCell (p := ⟨hh, 3, none⟩) (Or.inl (by simp)) _).setCell (p := ⟨hh, 4, none⟩) (Or.inl (by simp)) _
        have HS3 : Hid (StoreIs ((((W0.setCell ⟨hh, 1, none⟩ (.int .i64 1)).setCell ⟨hh, 2, none⟩ (.int .i64 (halfL s 1).1)).setCell ⟨hh, 3, none⟩ (.slice a3 n3 q3)).setCell ⟨hh, 4, none⟩ (.slice a4 n4 q4)) p b s) := HS0.out.only HON3.out (by simp; exact HNE.out.1) (by simp; exact HNE.out.2)
        have HOW3 : Hid (Only [] w ((((W0.setCell ⟨hh, 1, none⟩ (.int .i64 1)).setCell ⟨hh, 2, none⟩ (.int .i64 (halfL s 1).1)).setCell ⟨hh, 3, none⟩ (.slice a3 n3 q3)).setCell ⟨hh, 4, none⟩ (.slice a4 n4 q4))) := HO0.out.trans HON3.out (by simp; exact HGE.out)
        have HRW3 : Hid (Rows2 w.heap.size ((((W0.setCell ⟨hh, 1, none⟩ (.int .i64 1)).setCell ⟨hh, 2, none⟩ (.int .i64 (halfL s 1).1)).setCell ⟨hh, 3, none⟩ (.slice a3 n3 q3)).setCell ⟨hh, 4, none⟩ (.slice a4 n4 q4)) (.slice a3 n3 q3) (.slice a4 n4 q4) (halfL s 1).2.1 (halfL s 1).2.2) := HR1.out.off HON3.out (fun g hg => by rw [List.mem_singleton.1 hg]; exact ⟨_, _, _, HBH.out, by decide⟩)
        have hz : ((halfL s 1).1 == 0) = false := by
          have := (readL_range (scanL (partB s (0 * (s.n / 2)) (s.n / 2)))).1
          have h0 : 0 ≤ (halfL s 0).1 := this
          rw [beq_eq_false_iff_ne]
          omega
        have HOU : Hid (openU s = 1) := by show _ = _; unfold openU; rw [if_pos hlt]
        have HQE : Hid (1 * (s.n / 2) = N) := by show _ = _; rw [HN.out]; simp
        have HHS : Hid (s.Has N N) := by show s.Has N N; have := half_has (s := s) (k := 1) (by omega) H4.out; rw [HQE.out, ← HN.out] at this; exact this
        have HPT : Hid (∀ W, StoreIs W p b s → _) := fun W hs => part_half hs N N HHS.out
        have HOP : Hid (openH s = (⟨⟨(openS s N N (frames (scanL (partB s N N))).length).1, scanL (partB s N N), (frames (scanL (partB s N N))).length, false⟩, 1, (halfL s 1).1, (halfL s 1).2.1, (halfL s 1).2.2, false⟩, (openS s N N (frames (scanL (partB s N N))).length).2)) := by
          show _ = _
          unfold openH
          rw [HOU.out, if_neg (by intro e; rw [e] at hz; simp at hz), HQE.out, ← HN.out]
        have HLN : Hid ((halfL s 1).2.1.length ≤ (scanL (partB s N N)).length ∧ (halfL s 1).2.2.length ≤ (scanL (partB s N N)).length ∧ 1 ≤ (halfL s 1).1 ∧ (halfL s 1).1 ≤ 9223372036854775807) := by
          have e : halfL s 1 = readL (scanL (partB s N N)) := by unfold halfL; rw [HQE.out, ← HN.out]
          have h1 := readL_len (scanL (partB s N N))
          have h2 := readL_range (scanL (partB s N N))
          have h3 : (readL (scanL (partB s N N))).1 ≠ 0 := by rw [← e]; exact beq_eq_false_iff_ne.1 hz
          rw [e]
          exact ⟨h1.1, h1.2, by omega, h2.2⟩
        have HOK : Hid (JS.Ok N N ⟨(openS s N N (frames (scanL (partB s N N))).length).1, scanL (partB s N N), (frames (scanL (partB s N N))).length, false⟩ ∧ (openS s N N (frames (scanL (partB s N N))).length).1.n = s.n) := by
          have h1 := hopenS_n HS0.out.wf N N (frames (scanL (partB s N N))).length
          have h2 := scan_len HS0.out.wf HHS.out
          have h3 := HHS.out
          exact ⟨⟨h1.2, by unfold St.Has at h3 ⊢; rw [h1.1]; exact h3, h2.1, h2.2⟩, h1.1⟩
        go_wp2_with fail
        generalize ((((W0.setCell ⟨hh, 1, none⟩ (.int .i64 1)).setCell ⟨hh, 2, none⟩ (.int .i64 (halfL s 1).1)).setCell ⟨hh, 3, none⟩ (.slice a3 n3 q3)).setCell ⟨hh, 4, none⟩ (.slice a4 n4 q4)) = W3 at *
        refine (HB1.out _ HS3.out).mono ?_
        rintro e w9 ⟨rfl, hw9⟩
        subst w9
        go_wp2_with fail
        refine (HPT.out _ HS3.out).mono ?_
        rintro e w4 ⟨po, v4, rfl, ho4, hst4, hjn4⟩
        have hb4 := ho4.blk HBK3.out (by simp; exact ⟨fun e => HNE.out.1 e.symm, fun e => HNE.out.2 e.symm⟩)
        have j5 : w4.cell? ⟨hh, 5, none⟩ = some (.pointer none) := blk_cell hb4 5
        have kj5 : w4.frozen? ⟨hh, 5, none⟩ = false := blk_frozen hb4 5
        have HO4 := Lib.hid ho4
        have HS4 := Lib.hid hst4
        have HJ4 := Lib.hid hjn4
        clear ho4 hst4 hjn4 hb4
        obtain ⟨cc, hcc⟩ : ∃ cc, cc = (openS s N N (frames (scanL (partB s N N))).length).2 := ⟨_, rfl⟩
        rw [← hcc] at HJ4 HOP ⊢
        clear hcc
        by_cases hc0 : cc = 0
        · subst hc0
          obtain ⟨j, rb, rfl, hj, hrb, hjn⟩ := HJ4.out rfl
          have HF := Lib.hid (open_fin (A := ⟨(openS s N N (frames (scanL (partB s N N))).length).1, scanL (partB s N N), (frames (scanL (partB s N N))).length, false⟩) (use := 1) HS3.out HOW3.out HGE.out HBK3.out HRW3.out HO4.out HS4.out HOK.out.2 H4.out (by omega) (by rw [HQE.out, ← HN.out]; exact HOK.out.1) hj hrb (by rw [HQE.out, ← HN.out]; exact hjn) HLN.out.2.2 HLN.out.1 HLN.out.2.1)
          clear hj hrb hjn HJ4
          go_wp2_with fail
          go_ret2
          unfold OpenHP
          rw [HOP.out]
          exact ⟨HF.out.1, HF.out.2.2.st, HOK.out.2, _, rfl, fun h => absurd rfl h, fun _ => ⟨_, rfl, HF.out.2.1, HF.out.2.2⟩⟩
        · have hcb : (cc == 0) = false := beq_eq_false_iff_ne.mpr hc0
          have HST : Hid (StoreIs (w4.setCell ⟨hh, 5, none⟩ (.pointer po)) p b (openS s N N (frames (scanL (partB s N N))).length).1 ∧ Only [p, b] w (w4.setCell ⟨hh, 5, none⟩ (.pointer po))) :=
            ⟨HS4.out.only ((Only.refl [hh] _).setCell (p := ⟨hh, 5, none⟩) (Or.inl (by simp)) _) (by simp; exact HNE.out.1) (by simp; exact HNE.out.2), ((HOW3.out.mono (T := [p, b]) (by simp)).tr HO4.out).setCell (p := ⟨hh, 5, none⟩) (Or.inr HGE.out) _⟩
          go_wp2_with fail
          go_ret2
          unfold OpenHP
          rw [HOP.out]
          exact ⟨HST.out.2, HST.out.1, HOK.out.2, none, rfl, fun _ => rfl, fun h => absurd h hc0⟩
      · have HBK3 : Hid ((((W0.setCell ⟨hh, 2, none⟩ (.int .i64 (halfL s 0).1)).setCell ⟨hh, 3, none⟩ (.slice a1 n1 q1)).setCell ⟨hh, 4, none⟩ (.slice a2 n2 q2)).heap[hh]? = some (.cells (halC p 0 (halfL s 0).1 (.slice a1 n1 q1) (.slice a2 n2 q2) none false) 66 (0, 0))) := blk_set (blk_set (blk_set HBH.out 2 (.int .i64 (halfL s 0).1)) 3 (.slice a1 n1 q1)) 4 (.slice a2 n2 q2)
        have HON3 : Hid (Only [hh] W0 (((W0.setCell ⟨hh, 2, none⟩ (.int .i64 (halfL s 0).1)).setCell ⟨hh, 3, none⟩ (.slice a1 n1 q1)).setCell ⟨hh, 4, none⟩ (.slice a2 n2 q2))) := (((Only.refl _ _).setCell (p := ⟨hh, 2, none⟩) (Or.inl (by simp)) _).setCell (p := ⟨hh, 3, none⟩) (Or.inl (by simp)) _).setCell (p := ⟨hh, 4, none⟩) (Or.inl (by simp)) _
        have HS3 : Hid (StoreIs (((W0.setCell ⟨hh, 2, none⟩ (.int .i64 (halfL s 0).1)).setCell ⟨hh, 3, none⟩ (.slice a1 n1 q1)).setCell ⟨hh, 4, none⟩ (.slice a2 n2 q2)) p b s) := HS0.out.only HON3.out (by simp; exact HNE.out.1) (by simp; exact HNE.out.2)
        have HOW3 : Hid (Only [] w (((W0.setCell ⟨hh, 2, none⟩ (.int .i64 (halfL s 0).1)).setCell ⟨hh, 3, none⟩ (.slice a1 n1 q1)).setCell ⟨hh, 4, none⟩ (.slice a2 n2 q2))) := HO0.out.trans HON3.out (by simp; exact HGE.out)
        have HRW3 : Hid (Rows2 w.heap.size (((W0.setCell ⟨hh, 2, none⟩ (.int .i64 (halfL s 0).1)).setCell ⟨hh, 3, none⟩ (.slice a1 n1 q1)).setCell ⟨hh, 4, none⟩ (.slice a2 n2 q2)) (.slice a1 n1 q1) (.slice a2 n2 q2) (halfL s 0).2.1 (halfL s 0).2.2) := HR0.out.off HON3.out (fun g hg => by rw [List.mem_singleton.1 hg]; exact ⟨_, _, _, HBH.out, by decide⟩)
        by_cases hz0 : (halfL s 0).1 = 0
        · have hz : ((halfL s 0).1 == 0) = true := beq_iff_eq.mpr hz0
          have HOU : Hid (openU s = 0) := by show _ = _; unfold openU; rw [if_neg hlt]
          have HHL : Hid (halfL s 0 = (0, [], [])) := readL_zero _ hz0
          have HHS : Hid (s.Has 0 N) := by show s.Has 0 N; have := half_has (s := s) (k := 0) (by omega) H4.out; rw [Nat.zero_mul, ← HN.out] at this; exact this
          have HOP : Hid (openH s = (⟨(freshS s 0 N [g1B, liveB]).1, 0, 1, [], [], false⟩, (freshS s 0 N [g1B, liveB]).2)) := by
            show _ = _
            unfold openH
            rw [HOU.out, if_pos hz0, ← HN.out]
          have HFO := Lib.hid (fresh_ok HS0.out.wf HHS.out [g1B, liveB])
          have HB4 : Hid (((((W0.setCell ⟨hh, 2, none⟩ (.int .i64 0)).setCell ⟨hh, 3, none⟩ (.slice a1 n1 q1)).setCell ⟨hh, 4, none⟩ (.slice a2 n2 q2)).setCell ⟨hh, 2, none⟩ (.int .i64 1)).heap[hh]? = some (.cells (halC p 0 1 (.slice a1 n1 q1) (.slice a2 n2 q2) none false) 66 (0, 0))) := blk_set (blk_set (blk_set (blk_set HBH.out 2 (.int .i64 0)) 3 (.slice a1 n1 q1)) 4 (.slice a2 n2 q2)) 2 (.int .i64 1)
          have HO4 : Hid (Only [hh] W0 ((((W0.setCell ⟨hh, 2, none⟩ (.int .i64 0)).setCell ⟨hh, 3, none⟩ (.slice a1 n1 q1)).setCell ⟨hh, 4, none⟩ (.slice a2 n2 q2)).setCell ⟨hh, 2, none⟩ (.int .i64 1))) := ((((Only.refl _ _).setCell (p := ⟨hh, 2, none⟩) (Or.inl (by simp)) _).setCell (p := ⟨hh, 3, none⟩) (Or.inl (by simp)) _).setCell (p := ⟨hh, 4, none⟩) (Or.inl (by simp)) _).setCell (p := ⟨hh, 2, none⟩) (Or.inl (by simp)) _
          have HS4 : Hid (StoreIs ((((W0.setCell ⟨hh, 2, none⟩ (.int .i64 0)).setCell ⟨hh, 3, none⟩ (.slice a1 n1 q1)).setCell ⟨hh, 4, none⟩ (.slice a2 n2 q2)).setCell ⟨hh, 2, none⟩ (.int .i64 1)) p b s) := HS0.out.only HO4.out (by simp; exact HNE.out.1) (by simp; exact HNE.out.2)
          have HOW4 : Hid (Only [] w ((((W0.setCell ⟨hh, 2, none⟩ (.int .i64 0)).setCell ⟨hh, 3, none⟩ (.slice a1 n1 q1)).setCell ⟨hh, 4, none⟩ (.slice a2 n2 q2)).setCell ⟨hh, 2, none⟩ (.int .i64 1))) := HO0.out.trans HO4.out (by simp; exact HGE.out)
          have HRW4 : Hid (Rows2 w.heap.size ((((W0.setCell ⟨hh, 2, none⟩ (.int .i64 0)).setCell ⟨hh, 3, none⟩ (.slice a1 n1 q1)).setCell ⟨hh, 4, none⟩ (.slice a2 n2 q2)).setCell ⟨hh, 2, none⟩ (.int .i64 1)) (.slice a1 n1 q1) (.slice a2 n2 q2) [] []) := by
            have h0 := HR0.out
            rw [show (halfL s 0).2.1 = [] by rw [HHL.out], show (halfL s 0).2.2 = [] by rw [HHL.out]] at h0
            exact h0.off HO4.out (fun g hg => by rw [List.mem_singleton.1 hg]; exact ⟨_, _, _, HBH.out, by decide⟩)
          have HFC : Hid (∀ W, StoreIs W p b s → ∀ v, RowA W v [g1B, liveB] p b → Calls Tryz.prog 33 #[.pointer (some ⟨p, 0, none⟩), .int .i64 0, v] W (FreshPost s p b 0 N [g1B, liveB] W)) := fun W hs v hv =>
            fresh_of hs (by have := H4.out; omega) 0 0 N (by omega) (by rw [Nat.zero_mul]) HN.out hv (by decide) (by decide)
          have HSZ : Hid (W0.heap.size = ((((W0.setCell ⟨hh, 2, none⟩ (.int .i64 0)).setCell ⟨hh, 3, none⟩ (.slice a1 n1 q1)).setCell ⟨hh, 4, none⟩ (.slice a2 n2 q2)).setCell ⟨hh, 2, none⟩ (.int .i64 1)).heap.size) := by show _ = _; simp
          clear HBK3 HON3 HS3 HOW3 HRW3
          go_wp2_with fail
          generalize ((((W0.setCell ⟨hh, 2, none⟩ (.int .i64 0)).setCell ⟨hh, 3, none⟩ (.slice a1 n1 q1)).setCell ⟨hh, 4, none⟩ (.slice a2 n2 q2)).setCell ⟨hh, 2, none⟩ (.int .i64 1)) = W4 at *
          refine (HFC.out _ (HS4.out.alloc _) _ (begin_row W4 W0.heap.size HSZ.out p b HS4.out.lt.1 HS4.out.lt.2 _)).mono ?_
          rintro e w4 ⟨ho5, hst5, po, rfl, hjn5⟩
          have HB5 := Lib.hid (blk_alloc HB4.out (.cells #[.string { data := #[103, 32, 49] }, .string { data := #[108, 105, 118, 101] }] 9))
          have HS5 := Lib.hid (HS4.out.alloc (.cells #[.string { data := #[103, 32, 49] }, .string { data := #[108, 105, 118, 101] }] 9))
          have HOW5 := Lib.hid (HOW4.out.alloc (.cells #[.string { data := #[103, 32, 49] }, .string { data := #[108, 105, 118, 101] }] 9))
          have HRW5 := Lib.hid (HRW4.out.keep ((Only.refl [] W4).alloc (.cells #[.string { data := #[103, 32, 49] }, .string { data := #[108, 105, 118, 101] }] 9)))
          generalize W4.alloc (.cells #[.string { data := #[103, 32, 49] }, .string { data := #[108, 105, 118, 101] }] 9) = W5 at *
          have hb5 := ho5.blk HB5.out (by simp; exact ⟨fun e => HNE.out.1 e.symm, fun e => HNE.out.2 e.symm⟩)
          have j5 : w4.cell? ⟨hh, 5, none⟩ = some (.pointer none) := blk_cell hb5 5
          have kj5 : w4.frozen? ⟨hh, 5, none⟩ = false := blk_frozen hb5 5
          have HO5 := Lib.hid ho5
          have HS6 := Lib.hid hst5
          have HJ5 := Lib.hid hjn5
          clear ho5 hst5 hjn5 hb5
          obtain ⟨cc, hcc⟩ : ∃ cc, cc = (freshS s 0 N [g1B, liveB]).2 := ⟨_, rfl⟩
          have HFA : Hid (cc = 0 → (freshS s 0 N [g1B, liveB]).1.l = [g1B, liveB]) := fun h => fresh_all (hcc ▸ h)
          rw [← hcc] at HJ5 HOP ⊢
          clear hcc
          by_cases hc0 : cc = 0
          · subst hc0
            obtain ⟨j, rb, rfl, hj, hrb, hjn⟩ := HJ5.out rfl
            have HF := Lib.hid (open_fin (A := (freshS s 0 N [g1B, liveB]).1) (use := 0) HS5.out HOW5.out HGE.out HB5.out HRW5.out HO5.out HS6.out HFO.out.2 H4.out (by omega) (by rw [Nat.zero_mul, ← HN.out]; exact HFO.out.1) hj hrb (by rw [Nat.zero_mul, ← HN.out]; exact hjn) (by decide) (Nat.zero_le _) (Nat.zero_le _))
            clear hj hrb hjn HJ5
            go_wp2_with fail
            go_ret2
            unfold OpenHP
            rw [HOP.out]
            exact ⟨HF.out.1, HF.out.2.2.st, HFO.out.2, _, rfl, fun h => absurd rfl h, fun _ => ⟨_, rfl, HF.out.2.1, HF.out.2.2⟩⟩
          · have hcb : (cc == 0) = false := beq_eq_false_iff_ne.mpr hc0
            have HST : Hid (StoreIs (w4.setCell ⟨hh, 5, none⟩ (.pointer po)) p b (freshS s 0 N [g1B, liveB]).1.s ∧ Only [p, b] w (w4.setCell ⟨hh, 5, none⟩ (.pointer po))) :=
              ⟨HS6.out.only ((Only.refl [hh] _).setCell (p := ⟨hh, 5, none⟩) (Or.inl (by simp)) _) (by simp; exact HNE.out.1) (by simp; exact HNE.out.2), ((HOW5.out.mono (T := [p, b]) (by simp)).tr HO5.out).setCell (p := ⟨hh, 5, none⟩) (Or.inr HGE.out) _⟩
            go_wp2_with fail
            go_ret2
            unfold OpenHP
            rw [HOP.out]
            exact ⟨HST.out.2, HST.out.1, HFO.out.2, none, rfl, fun _ => rfl, fun h => absurd h hc0⟩
        · have hz : ((halfL s 0).1 == 0) = false := beq_eq_false_iff_ne.mpr hz0
          have HOU : Hid (openU s = 0) := by show _ = _; unfold openU; rw [if_neg hlt]
          have HQE : Hid (0 * (s.n / 2) = 0) := Nat.zero_mul _
          have HHS : Hid (s.Has 0 N) := by show s.Has 0 N; have := half_has (s := s) (k := 0) (by omega) H4.out; rw [HQE.out, ← HN.out] at this; exact this
          have HPT : Hid (∀ W, StoreIs W p b s → _) := fun W hs => part_half hs 0 N HHS.out
          have HOP : Hid (openH s = (⟨⟨(openS s 0 N (frames (scanL (partB s 0 N))).length).1, scanL (partB s 0 N), (frames (scanL (partB s 0 N))).length, false⟩, 0, (halfL s 0).1, (halfL s 0).2.1, (halfL s 0).2.2, false⟩, (openS s 0 N (frames (scanL (partB s 0 N))).length).2)) := by
            show _ = _
            unfold openH
            rw [HOU.out, if_neg (by intro e; rw [e] at hz; simp at hz), HQE.out, ← HN.out]
          have HLN : Hid ((halfL s 0).2.1.length ≤ (scanL (partB s 0 N)).length ∧ (halfL s 0).2.2.length ≤ (scanL (partB s 0 N)).length ∧ 1 ≤ (halfL s 0).1 ∧ (halfL s 0).1 ≤ 9223372036854775807) := by
            have e : halfL s 0 = readL (scanL (partB s 0 N)) := by unfold halfL; rw [HQE.out, ← HN.out]
            have h1 := readL_len (scanL (partB s 0 N))
            have h2 := readL_range (scanL (partB s 0 N))
            have h3 : (readL (scanL (partB s 0 N))).1 ≠ 0 := by rw [← e]; exact beq_eq_false_iff_ne.1 hz
            rw [e]
            exact ⟨h1.1, h1.2, by omega, h2.2⟩
          have HOK : Hid (JS.Ok 0 N ⟨(openS s 0 N (frames (scanL (partB s 0 N))).length).1, scanL (partB s 0 N), (frames (scanL (partB s 0 N))).length, false⟩ ∧ (openS s 0 N (frames (scanL (partB s 0 N))).length).1.n = s.n) := by
            have h1 := hopenS_n HS0.out.wf 0 N (frames (scanL (partB s 0 N))).length
            have h2 := scan_len HS0.out.wf HHS.out
            have h3 := HHS.out
            exact ⟨⟨h1.2, by unfold St.Has at h3 ⊢; rw [h1.1]; exact h3, h2.1, h2.2⟩, h1.1⟩
          go_wp2_with fail
          generalize (((W0.setCell ⟨hh, 2, none⟩ (.int .i64 (halfL s 0).1)).setCell ⟨hh, 3, none⟩ (.slice a1 n1 q1)).setCell ⟨hh, 4, none⟩ (.slice a2 n2 q2)) = W3 at *
          refine (HB0.out _ HS3.out).mono ?_
          rintro e w9 ⟨rfl, hw9⟩
          subst w9
          go_wp2_with fail
          refine (HPT.out _ HS3.out).mono ?_
          rintro e w4 ⟨po, v4, rfl, ho4, hst4, hjn4⟩
          have hb4 := ho4.blk HBK3.out (by simp; exact ⟨fun e => HNE.out.1 e.symm, fun e => HNE.out.2 e.symm⟩)
          have j5 : w4.cell? ⟨hh, 5, none⟩ = some (.pointer none) := blk_cell hb4 5
          have kj5 : w4.frozen? ⟨hh, 5, none⟩ = false := blk_frozen hb4 5
          have HO4 := Lib.hid ho4
          have HS4 := Lib.hid hst4
          have HJ4 := Lib.hid hjn4
          clear ho4 hst4 hjn4 hb4
          obtain ⟨cc, hcc⟩ : ∃ cc, cc = (openS s 0 N (frames (scanL (partB s 0 N))).length).2 := ⟨_, rfl⟩
          rw [← hcc] at HJ4 HOP ⊢
          clear hcc
          by_cases hc0 : cc = 0
          · subst hc0
            obtain ⟨j, rb, rfl, hj, hrb, hjn⟩ := HJ4.out rfl
            have HF := Lib.hid (open_fin (A := ⟨(openS s 0 N (frames (scanL (partB s 0 N))).length).1, scanL (partB s 0 N), (frames (scanL (partB s 0 N))).length, false⟩) (use := 0) HS3.out HOW3.out HGE.out HBK3.out HRW3.out HO4.out HS4.out HOK.out.2 H4.out (by omega) (by rw [HQE.out, ← HN.out]; exact HOK.out.1) hj hrb (by rw [HQE.out, ← HN.out]; exact hjn) HLN.out.2.2 HLN.out.1 HLN.out.2.1)
            clear hj hrb hjn HJ4
            go_wp2_with fail
            go_ret2
            unfold OpenHP
            rw [HOP.out]
            exact ⟨HF.out.1, HF.out.2.2.st, HOK.out.2, _, rfl, fun h => absurd rfl h, fun _ => ⟨_, rfl, HF.out.2.1, HF.out.2.2⟩⟩
          · have hcb : (cc == 0) = false := beq_eq_false_iff_ne.mpr hc0
            have HST : Hid (StoreIs (w4.setCell ⟨hh, 5, none⟩ (.pointer po)) p b (openS s 0 N (frames (scanL (partB s 0 N))).length).1 ∧ Only [p, b] w (w4.setCell ⟨hh, 5, none⟩ (.pointer po))) :=
              ⟨HS4.out.only ((Only.refl [hh] _).setCell (p := ⟨hh, 5, none⟩) (Or.inl (by simp)) _) (by simp; exact HNE.out.1) (by simp; exact HNE.out.2), ((HOW3.out.mono (T := [p, b]) (by simp)).tr HO4.out).setCell (p := ⟨hh, 5, none⟩) (Or.inr HGE.out) _⟩
            go_wp2_with fail
            go_ret2
            unfold OpenHP
            rw [HOP.out]
            exact ⟨HST.out.2, HST.out.1, HOK.out.2, none, rfl, fun _ => rfl, fun h => absurd h hc0⟩
end Go.Proofs.YtngcdkbnljoodaaGreatDoor

