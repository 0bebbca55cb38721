/- What records make a half. No conditions beyond those typed. -/
import Derived.Test.YtngcdkbnljoodaaGreatDoorHalA
import Derived.Test.YtngcdkbnljoodaaGreatDoorMrgB
import Derived.Deep.AppendLies
import Derived.Deep.RegionLaw
namespace Go.Proofs.YtngcdkbnljoodaaGreatDoor
set_option linter.unusedVariables false
set_option linter.unusedSimpArgs false
open Go.RowKit Go.Proofs.YtngcdkbnljoodaaGreatDoorW.PrintWords

theorem news_one (w : World) (v : Value) (t : TypeId) : ∀ (j : Nat) (u : Value), [v][j]? = some u → (w.alloc (.cells #[v] t)).cell? ((⟨w.heap.size, 0, none⟩ : Addr).add j) = some u := by
  intro j u hj
  match j, hj with
  | 0, hj => simp at hj; subst hj; simp [Addr.add]
def liveB : Bs := [108, 105, 118, 101]
/-- What stands behind a half's first record: its snapshot, its tail. -/
def bodyL : List Bs → Bool → List Bs → List Bs → Option (List Bs × List Bs)
  | [], is, sn, tl => if is = true then some (sn, tl) else none
  | r :: t, is, sn, tl =>
    if is = false ∧ r = liveB then bodyL t true sn tl
    else if is = false ∧ Lib.hasPrefix r [115, 32] = true then bodyL t is (sn ++ [r.drop 2]) tl
    else if is = true ∧ Lib.hasPrefix r [116, 32] = true then bodyL t is sn (tl ++ [r.drop 2])
    else none
/-- A half: its age (0: none), its snapshot, its tail. -/
def readL : List Bs → Int × List Bs × List Bs
  | [] => (0, [], [])
  | r :: t => if ageL r = 0 then (0, [], []) else match bodyL t false [] [] with
    | some (sn, tl) => (ageL r, sn, tl)
    | none => (0, [], [])
def halfC (a : Int) (vs vt : Value) : Array Value := #[.int .i64 a, vs, vt]
/-- Two rows of records that a half holds. -/
structure Rows2 (base : Nat) (w : World) (vs vt : Value) (sn tl : List Bs) : Prop where
  s : w.ownsRow base 9 1 vs sn.length (sn.map strV)
  t : w.ownsRow base 9 1 vt tl.length (tl.map strV)
  ne : ∀ x, vs.ownBlock = some x → vt.ownBlock ≠ some x
def ReadPost (l : List Bs) (w : World) (e : Ending) (w' : World) : Prop :=
  ∃ vs vt, e = .returned (.agg (halfC (readL l).1 vs vt)) ∧ Rows2 w.heap.size w' vs vt (readL l).2.1 (readL l).2.2 ∧ Only [] w w'
theorem Rows2.nil (base : Nat) (w : World) : Rows2 base w (.slice none 0 0) (.slice none 0 0) [] [] := ⟨World.ownsRow_nil _ _ _ _, World.ownsRow_nil _ _ _ _, fun x h => by simp [Value.ownBlock] at h⟩
theorem Rows2.keep {base : Nat} {w w' : World} {vs vt : Value} {sn tl : List Bs} (h : Rows2 base w vs vt sn tl) (ho : Only [] w w') : Rows2 base w' vs vt sn tl := ⟨own_keep h.s ho (by simp), own_keep h.t ho (by simp), h.ne⟩
theorem Rows2.off {S : List Nat} {base : Nat} {w w' : World} {vs vt : Value} {sn tl : List Bs} (h : Rows2 base w vs vt sn tl) (ho : Only S w w') (hS : ∀ g, g ∈ S → ∃ cs t f, w.heap[g]? = some (.cells cs t f) ∧ t ≠ 9) : Rows2 base w' vs vt sn tl := ⟨own_of_only h.s ho hS, own_of_only h.t ho hS, h.ne⟩
theorem half_ret {R : Ending → World → Prop} {a : Act} {w : World} {tb : Nat} {A : Int} {vs vt : Value} (hp : a.tmps.getD 2 undef = .pointer (some ⟨tb, 0, none⟩)) (hd : a.defers = []) (hb : w.heap[tb]? = some (.cells (halfC A vs vt) 58 (0, 0)))
    (hR : R (.returned (.agg (halfC A vs vt))) w) : bodyPost Tryz.prog Tryz.f31 R .ret a w :=
  bodyPost_ret (results_cell_row rfl _ _ tb 58 (halfC A vs vt) (0, 0) _ hp hb Tryz.underlying58 rfl (by kernel_rfl)) hd hR
set_option maxHeartbeats 2000000 in
theorem read_none (a : Option Addr) (c : Nat) (w : World) : Calls Tryz.prog 31 #[.slice a 0 c] w (ReadPost [] w) := by
  go_enter Tryz.func31, Tryz.ntmps31
  go_wp2
  exact half_ret rfl rfl (blk_new w (.cells (halfC 0 (.slice none 0 0) (.slice none 0 0)) 58)) ⟨_, _, rfl, Rows2.nil _ _, (Only.refl _ _).alloc _⟩
/-- Within the loop over records. -/
structure RdIn (w wr : World) (tb hb : Nat) (A : Int) (t : List Bs) (i : Nat) (is : Bool) (vs vt : Value) (sn tl : List Bs) : Prop where
  rows : Rows2 w.heap.size wr vs vt sn tl
  bh : wr.heap[hb]? = some (.cells (halfC A vs vt) 58 (0, 0))
  bt : wr.heap[tb]? = some (.cells (halfC 0 (.slice none 0 0) (.slice none 0 0)) 58 (0, 0))
  on : Only [] w wr
  run : bodyL t false [] [] = bodyL (t.drop i) is sn tl
  ls : sn.length ≤ i
  lt : tl.length ≤ i
  ne : tb ≠ hb
  gt : w.heap.size ≤ hb
theorem set3 {w1 : World} {tb : Nat} {A : Int} {vs vt : Value} (h : w1.heap[tb]? = some (.cells (halfC A vs vt) 58 (0, 0))) (B : Int) (us ut : Value) :
    (((w1.setCell ⟨tb, 0, none⟩ (.int .i64 B)).setCell ⟨tb, 1, none⟩ us).setCell ⟨tb, 2, none⟩ ut).heap[tb]? = some (.cells (halfC B us ut) 58 (0, 0)) := blk_set (blk_set (blk_set h 0 (.int .i64 B)) 1 us) 2 ut
theorem set3_only {S : List Nat} {w w1 : World} {tb : Nat} (ho : Only S w w1) (ht : tb ∈ S ∨ w.heap.size ≤ tb) (x y z : Value) : Only S w (((w1.setCell ⟨tb, 0, none⟩ x).setCell ⟨tb, 1, none⟩ y).setCell ⟨tb, 2, none⟩ z) :=
  ((ho.setCell (p := ⟨tb, 0, none⟩) ht x).setCell (p := ⟨tb, 1, none⟩) ht y).setCell (p := ⟨tb, 2, none⟩) ht z
theorem RdIn.only {w wr w' : World} {tb hb : Nat} {A : Int} {t : List Bs} {i : Nat} {is : Bool} {vs vt : Value} {sn tl : List Bs} (h : RdIn w wr tb hb A t i is vs vt sn tl) (ho : Only [] wr w') : RdIn w w' tb hb A t i is vs vt sn tl :=
  ⟨h.rows.keep ho, ho.blk h.bh (by simp), ho.blk h.bt (by simp), h.on.tr ho, h.run, h.ls, h.lt, h.ne, h.gt⟩
theorem RdIn.off {w wr w' : World} {tb hb : Nat} {A : Int} {t : List Bs} {i : Nat} {is : Bool} {vs vt : Value} {sn tl : List Bs} (h : RdIn w wr tb hb A t i is vs vt sn tl) {S : List Nat} (ho : Only S wr w') (hS : ∀ g, g ∈ S → w.heap.size ≤ g ∧ ∃ cs f, wr.heap[g]? = some (.cells cs 9 f)) :
    w'.heap[hb]? = some (.cells (halfC A vs vt) 58 (0, 0)) ∧ w'.heap[tb]? = some (.cells (halfC 0 (.slice none 0 0) (.slice none 0 0)) 58 (0, 0)) ∧ Only [] w w' := by
  have hn : ∀ g cs f, wr.heap[g]? = some (.cells cs 58 f) → g ∉ S := fun g cs f hg hm => by
    obtain ⟨_, cs2, f2, h2⟩ := hS g hm
    rw [hg] at h2
    cases h2
  exact ⟨ho.blk h.bh (hn _ _ _ h.bh), ho.blk h.bt (hn _ _ _ h.bt), h.on.trans ho (fun x hx => Or.inr (hS x hx).1)⟩
/-- The snapshot's row has grown. -/
theorem RdIn.growS {w wr w' : World} {tb hb : Nat} {A : Int} {t : List Bs} {i j : Nat} {is : Bool} {vs vt : Value} {sn tl : List Bs} (h : RdIn w wr tb hb A t i is vs vt sn tl) {g cap : Nat} {y : Bs} {wb : World} (hwb : Only [] wr wb)
    (hown : w'.ownsRow w.heap.size 9 1 (.slice (some ⟨g, 0, none⟩) (sn.length + 1) cap) (sn.length + 1) (sn.map strV ++ [strV y])) (hg : wb.grownBy w' vs.ownBlock) (hat : vs.ownBlock = some g ∨ wr.heap.size ≤ g)
    (hij : i < j) (hrun : bodyL t false [] [] = bodyL (t.drop j) is (sn ++ [y]) tl) :
    (∃ x, w'.cell? ⟨hb, 1, none⟩ = some x) ∧ w'.frozen? ⟨hb, 1, none⟩ = false ∧ RdIn w (w'.setCell ⟨hb, 1, none⟩ (.slice (some ⟨g, 0, none⟩) (sn.length + 1) cap)) tb hb A t j is (.slice (some ⟨g, 0, none⟩) (sn.length + 1) cap) vt (sn ++ [y]) tl := by
  have ho : Only vs.ownBlock.toList wr w' := (hwb.mono (by simp)).grown hg (fun x hx => Or.inl (by rw [hx]; simp))
  have hm : ∀ x, x ∈ vs.ownBlock.toList → vs.ownBlock = some x := fun x hx => by simpa using hx
  obtain ⟨h1, h2, h3⟩ := h.off ho (fun x hx => ⟨(h.rows.s.lt x (hm x hx)).1, own_type h.rows.s (hm x hx)⟩)
  have hset : Only [hb] w' (w'.setCell ⟨hb, 1, none⟩ (.slice (some ⟨g, 0, none⟩) (sn.length + 1) cap)) := (Only.refl _ _).setCell (p := ⟨hb, 1, none⟩) (Or.inl (by simp)) _
  have hst : ∀ x, x ∈ [hb] → ∃ cs t f, w'.heap[x]? = some (.cells cs t f) ∧ t ≠ 9 := fun x hx => by rw [List.mem_singleton.1 hx]; exact ⟨_, _, _, h1, by decide⟩
  have htk := own_keep h.rows.t ho (fun x hx hx2 => h.rows.ne x (hm x hx2) hx)
  refine ⟨⟨_, blk_cell h1 1⟩, blk_frozen h1 1, ⟨⟨?_, own_of_only htk hset hst, fun x hx e => ?_⟩, blk_set h1 1 _, hset.blk h2 (by simp; exact h.ne), h3.trans hset (by simp; exact h.gt), hrun, by rw [List.length_append]; have := h.ls; simp; omega, by have := h.lt; omega, h.ne, h.gt⟩⟩
  · rw [List.length_append, List.map_append]
    exact own_of_only hown hset hst
  · simp [Value.ownBlock] at hx
    subst hx
    rcases hat with e2 | e2
    · exact h.rows.ne g e2 e
    · have := (h.rows.t.lt _ e).2
      omega
/-- The tail's row has grown. -/
theorem RdIn.growT {w wr w' : World} {tb hb : Nat} {A : Int} {t : List Bs} {i j : Nat} {is : Bool} {vs vt : Value} {sn tl : List Bs} (h : RdIn w wr tb hb A t i is vs vt sn tl) {g cap : Nat} {y : Bs} {wb : World} (hwb : Only [] wr wb)
    (hown : w'.ownsRow w.heap.size 9 1 (.slice (some ⟨g, 0, none⟩) (tl.length + 1) cap) (tl.length + 1) (tl.map strV ++ [strV y])) (hg : wb.grownBy w' vt.ownBlock) (hat : vt.ownBlock = some g ∨ wr.heap.size ≤ g)
    (hij : i < j) (hrun : bodyL t false [] [] = bodyL (t.drop j) is sn (tl ++ [y])) :
    (∃ x, w'.cell? ⟨hb, 2, none⟩ = some x) ∧ w'.frozen? ⟨hb, 2, none⟩ = false ∧ RdIn w (w'.setCell ⟨hb, 2, none⟩ (.slice (some ⟨g, 0, none⟩) (tl.length + 1) cap)) tb hb A t j is vs (.slice (some ⟨g, 0, none⟩) (tl.length + 1) cap) sn (tl ++ [y]) := by
  have ho : Only vt.ownBlock.toList wr w' := (hwb.mono (by simp)).grown hg (fun x hx => Or.inl (by rw [hx]; simp))
  have hm : ∀ x, x ∈ vt.ownBlock.toList → vt.ownBlock = some x := fun x hx => by simpa using hx
  obtain ⟨h1, h2, h3⟩ := h.off ho (fun x hx => ⟨(h.rows.t.lt x (hm x hx)).1, own_type h.rows.t (hm x hx)⟩)
  have hset : Only [hb] w' (w'.setCell ⟨hb, 2, none⟩ (.slice (some ⟨g, 0, none⟩) (tl.length + 1) cap)) := (Only.refl _ _).setCell (p := ⟨hb, 2, none⟩) (Or.inl (by simp)) _
  have hst : ∀ x, x ∈ [hb] → ∃ cs t f, w'.heap[x]? = some (.cells cs t f) ∧ t ≠ 9 := fun x hx => by rw [List.mem_singleton.1 hx]; exact ⟨_, _, _, h1, by decide⟩
  have htk := own_keep h.rows.s ho (fun x hx hx2 => h.rows.ne x hx (hm x hx2))
  refine ⟨⟨_, blk_cell h1 2⟩, blk_frozen h1 2, ⟨⟨own_of_only htk hset hst, ?_, fun x hx e => ?_⟩, blk_set h1 2 _, hset.blk h2 (by simp; exact h.ne), h3.trans hset (by simp; exact h.gt), hrun, by have := h.ls; omega, by rw [List.length_append]; have := h.lt; simp; omega, h.ne, h.gt⟩⟩
  · rw [List.length_append, List.map_append]
    exact own_of_only hown hset hst
  · simp [Value.ownBlock] at e
    subst e
    rcases hat with e2 | e2
    · exact h.rows.ne _ hx e2
    · have := (h.rows.s.lt _ hx).2
      omega
set_option maxHeartbeats 4000000 in
set_option maxRecDepth 100000 in
theorem read_some {w : World} {g cap : Nat} {r : Bs} {t : List Bs} (hc : ∀ j x, (r :: t)[j]? = some x → w.cell? ⟨g, j, none⟩ = some (strV x)) (hcap : (r :: t).length ≤ cap) (hl : (r :: t).length ≤ 100000) (hx : ∀ x ∈ r :: t, x.length ≤ 100000) (hv : Vars w) :
    Calls Tryz.prog 31 #[.slice (some ⟨g, 0, none⟩) (t.length + 1) cap] w (ReadPost (r :: t) w) := by
  have hr0 := hc 0 r rfl
  unfold strV at hr0
  have hrx := hx r (by simp)
  have HC : Hid (∀ j x, t[j]? = some x → w.cell? ⟨g, j + 1, none⟩ = some (strV x)) := fun j x h => hc (j + 1) x h
  have HX : Hid (∀ x ∈ t, x.length ≤ 100000) := fun x h => hx x (by simp [h])
  have HV := Lib.hid hv
  simp only [List.length_cons] at hcap hl
  obtain ⟨M, hM⟩ : ∃ M, M = t.length := ⟨_, rfl⟩
  rw [← hM] at hcap hl ⊢
  have HM := Lib.hid hM
  obtain ⟨RB, hRB⟩ : ∃ RB, RB = mkS r := ⟨_, rfl⟩
  rw [← hRB] at hr0
  have HAG : Hid (∀ W, Only [] w W → Calls Tryz.prog 52 #[.string RB] W fun e w' => e = .returned (.int .i64 (ageL r)) ∧ Only [] W w') := fun W hW => by
    refine (age_of RB (by rw [hRB, size_mkS]; exact hrx) W (hv.only hW)).mono ?_
    rintro e w' ⟨rfl, ho⟩
    exact ⟨by rw [hRB, list_mkS], ho⟩
  have HRD : Hid (readL (r :: t) = if ageL r = 0 then (0, [], []) else match bodyL t false [] [] with | some (sn, tl) => (ageL r, sn, tl) | none => (0, [], [])) := rfl
  generalize hA : ageL r = A at *
  have hr1 : (w.alloc (.cells #[.int .i64 0, .slice none 0 0, .slice none 0 0] 58)).cell? ⟨g, 0, none⟩ = some (.string RB) := by
    refine (World.cell?_of_block (((Only.refl [] w).alloc (.cells #[.int .i64 0, .slice none 0 0, .slice none 0 0] 58)).block g ?_ (by simp))).trans hr0
    rcases Nat.lt_or_ge g w.heap.size with h2 | h2
    · exact h2
    · unfold World.cell? at hr0
      rw [Array.getElem?_eq_none h2] at hr0
      simp at hr0
  have hz0 : ((M : Int) + 1 == 0) = false := beq_eq_false_iff_ne.mpr (by omega)
  have hz1 : (0 : Int) < (M : Int) + 1 := by omega
  have hz2 : (1 : Int) ≤ (M : Int) + 1 := by omega
  clear hc hx hv hM hRB hrx hA
  go_enter Tryz.func31, Tryz.ntmps31
  go_wp2_with fail
  refine (HAG.out _ ((Only.refl [] w).alloc _)).mono ?_
  rintro e w1 ⟨rfl, ho1⟩
  have HO1 : Hid (Only [] w w1) := ((Only.refl [] w).alloc _).tr ho1
  have HB1 : Hid (w1.heap[w.heap.size]? = some (.cells (halfC 0 (.slice none 0 0) (.slice none 0 0)) 58 (0, 0))) := ho1.blk (blk_new w _) (by simp)
  have hr2 : w1.cell? ⟨g, 0, none⟩ = some (.string RB) := by
    rcases Nat.lt_or_ge g w.heap.size with h2 | h2
    · exact (World.cell?_of_block (HO1.out.block g h2 (by simp))).trans hr0
    · unfold World.cell? at hr0
      rw [Array.getElem?_eq_none h2] at hr0
      simp at hr0
  clear ho1 hr1
  by_cases hA0 : A = 0
  · have HR0 : Hid (readL (r :: t) = (0, [], [])) := by show _ = _; rw [HRD.out, if_pos hA0]
    subst hA0
    have c0 : w1.cell? ⟨w.heap.size, 0, none⟩ = some (.int .i64 0) := blk_cell HB1.out 0
    have c1 : w1.cell? ⟨w.heap.size, 1, none⟩ = some (.slice none 0 0) := blk_cell HB1.out 1
    have c2 : w1.cell? ⟨w.heap.size, 2, none⟩ = some (.slice none 0 0) := blk_cell HB1.out 2
    have f0 : w1.frozen? ⟨w.heap.size, 0, none⟩ = false := blk_frozen HB1.out 0
    have f1 : w1.frozen? ⟨w.heap.size, 1, none⟩ = false := blk_frozen HB1.out 1
    have f2 : w1.frozen? ⟨w.heap.size, 2, none⟩ = false := blk_frozen HB1.out 2
    go_wp2_with fail
    refine half_ret rfl rfl (set3 HB1.out _ _ _) ?_
    rw [ReadPost, HR0.out]
    exact ⟨_, _, rfl, Rows2.nil _ _, set3_only HO1.out (Or.inr (Nat.le_refl _)) _ _ _⟩
  · have hA1 : (A == 0) = false := beq_eq_false_iff_ne.mpr hA0
    by_cases hc1 : cap = 1
    · obtain rfl : M = 0 := by omega
      subst hc1
      have HRZ : Hid (readL (r :: t) = (0, [], [])) := by
        show _ = _
        have ht : t = [] := List.length_eq_zero_iff.1 HM.out.symm
        rw [HRD.out, if_neg hA0, ht]
        rfl
      go_wp2_with fail
      refine (HAG.out _ HO1.out).mono ?_
      rintro e w2 ⟨rfl, ho2⟩
      have HO2 := Lib.hid (HO1.out.tr ho2)
      have HB2 := Lib.hid (ho2.blk HB1.out (by simp))
      clear ho2
      go_wp2_with fail
      have HO3 : Hid (Only [] w (w2.alloc (.cells (halfC A (.slice none 0 0) (.slice none 0 0)) 58))) := HO2.out.alloc _
      have HB3 := Lib.hid (blk_alloc HB2.out (.cells (halfC A (.slice none 0 0) (.slice none 0 0)) 58))
      unfold halfC at HO3 HB3
      generalize w2.alloc (.cells #[.int .i64 A, .slice none 0 0, .slice none 0 0] 58) = w3 at *
      generalize w2.heap.size = hb at *
      clear HB1 HB2 HO1 HO2 hr2 hr0 hz0 hz1 hz2
      go_loopw [4, 26] (fun sv i wq => sv = .bool false ∧ i = .int .i64 0 ∧ wq = w3) (fun _ i _ => 0)
      case atStart => exact ⟨rfl, rfl, rfl⟩
      case round =>
        obtain ⟨rfl, rfl, hwq⟩ := hrel
        subst wr
        have c0 : w3.cell? ⟨w.heap.size, 0, none⟩ = some (.int .i64 0) := blk_cell HB3.out 0
        have c1 : w3.cell? ⟨w.heap.size, 1, none⟩ = some (.slice none 0 0) := blk_cell HB3.out 1
        have c2 : w3.cell? ⟨w.heap.size, 2, none⟩ = some (.slice none 0 0) := blk_cell HB3.out 2
        have f0 : w3.frozen? ⟨w.heap.size, 0, none⟩ = false := blk_frozen HB3.out 0
        have f1 : w3.frozen? ⟨w.heap.size, 1, none⟩ = false := blk_frozen HB3.out 1
        have f2 : w3.frozen? ⟨w.heap.size, 2, none⟩ = false := blk_frozen HB3.out 2
        go_wp2_with fail
        refine half_ret (by rfl) (by rfl) (set3 HB3.out _ _ _) ?_
        rw [ReadPost, HRZ.out]
        exact ⟨_, _, rfl, Rows2.nil _ _, set3_only HO3.out (Or.inr (Nat.le_refl _)) _ _ _⟩
    · go_wp2_with fail
      refine (HAG.out _ HO1.out).mono ?_
      rintro e w2 ⟨rfl, ho2⟩
      have HO2 := Lib.hid (HO1.out.tr ho2)
      have HB2 := Lib.hid (ho2.blk HB1.out (by simp))
      clear ho2
      go_wp2_with fail
      have HI : Hid (RdIn w (w2.alloc (.cells (halfC A (.slice none 0 0) (.slice none 0 0)) 58)) w.heap.size w2.heap.size A t 0 false (.slice none 0 0) (.slice none 0 0) [] []) :=
        ⟨Rows2.nil _ _, blk_new w2 _, blk_alloc HB2.out _, HO2.out.alloc _, rfl, Nat.le_refl _, Nat.le_refl _, by have := blk_lt HB2.out; omega, HO2.out.size⟩
      unfold halfC at HI
      generalize w2.alloc (.cells #[.int .i64 A, .slice none 0 0, .slice none 0 0] 58) = w3 at *
      generalize w2.heap.size = hb at *
      clear HB1 HB2 HO1 HO2 hr2 hr0 hz0 hz1 hz2
      go_loopw [4, 26] (fun sv i wq => ∃ (k : Nat) (is : Bool) (vs vt : Value) (sn tl : List Bs), sv = .bool is ∧ i = .int .i64 (k : Int) ∧ k ≤ M ∧ Hid (RdIn w wq w.heap.size hb A t k is vs vt sn tl)) (fun _ i _ => M - (intOf i).toNat)
      case atStart => exact ⟨0, false, _, _, [], [], rfl, rfl, Nat.zero_le _, HI⟩
      case round =>
        clear HI
        obtain ⟨k, is, vs, vt, sn, tl, rfl, rfl, hk, HI⟩ := hrel
        by_cases hkM : k < M
        · obtain ⟨x, hx⟩ : ∃ x, t[k]? = some x := ⟨_, List.getElem?_eq_getElem (by have := HM.out; omega)⟩
          have hcx0 := HC.out k x hx
          unfold strV at hcx0
          have hcx : wr.cell? ⟨g, 1 + k, none⟩ = some (.string (mkS x)) := by
            rw [Nat.add_comm 1 k]
            refine (World.cell?_of_block (HI.out.on.block g ?_ (by simp))).trans hcx0
            rcases Nat.lt_or_ge g w.heap.size with h2 | h2
            · exact h2
            · unfold World.cell? at hcx0
              rw [Array.getElem?_eq_none h2] at hcx0
              simp at hcx0
          have hdr : t.drop k = x :: t.drop (k + 1) := by
            obtain ⟨h1, h2⟩ := List.getElem?_eq_some_iff.1 hx
            rw [List.drop_eq_getElem_cons h1, h2]
          have hrun := HI.out.run
          rw [hdr, bodyL] at hrun
          have hxl := HX.out x (List.mem_of_getElem? hx)
          obtain ⟨XB, hXB⟩ : ∃ XB, XB = mkS x := ⟨_, rfl⟩
          have hXs : XB.size = x.length := by rw [hXB, size_mkS]
          have hXl : XB.data.toList = x := by rw [hXB, list_mkS]
          rw [← hXB] at hcx
          have HPS : Hid (∀ W, Calls Tryz.prog 53 #[.string XB, .string { data := #[115, 32] }] W fun e w' => e = .returned (.bool (Lib.hasPrefix x [115, 32])) ∧ w' = W) := fun W => by
            have := Tryz.strings_HasPrefix XB { data := #[115, 32] } W
            rw [hXl] at this
            exact this
          have HPT : Hid (∀ W, Calls Tryz.prog 53 #[.string XB, .string { data := #[116, 32] }] W fun e w' => e = .returned (.bool (Lib.hasPrefix x [116, 32])) ∧ w' = W) := fun W => by
            have := Tryz.strings_HasPrefix XB { data := #[116, 32] } W
            rw [hXl] at this
            exact this
          have hlv : (XB.toList == [108, 105, 118, 101]) = decide (x = liveB) := by
            rw [ByteArray.toList_eq, hXl, Bool.eq_iff_iff, beq_iff_eq, decide_eq_true_iff]
            exact Iff.rfl
          have hdX : XB.extract 2 XB.size = mkS (x.drop 2) := by rw [mkS_extract, hXl, List.take_of_length_le (by rw [List.length_drop]; omega)]
          have h2s : Lib.hasPrefix x [115, 32] = true → 2 ≤ x.length := fun h => (List.isPrefixOf_iff_prefix.1 h).length_le
          have h2t : Lib.hasPrefix x [116, 32] = true → 2 ≤ x.length := fun h => (List.isPrefixOf_iff_prefix.1 h).length_le
          have HI2 := Lib.hid HI.out
          have HXL := Lib.hid hXl
          have hc0 : (0 : Int) ≤ (k : Int) := by omega
          have hc1 : (k : Int) < (M : Int) := by omega
          have hwr : IntKind.i64.wrap ((k : Int) + 1) = (k : Int) + 1 := IntWalk.i64_in _ (by omega)
          have HRUN := Lib.hid hrun
          clear hcx0 hx hdr hXB hXl hrun HI
          cases is
          · by_cases hlive : x = liveB
            · rw [decide_eq_true hlive] at hlv
              have HI3 : Hid (RdIn w wr w.heap.size hb A t (k + 1) true vs vt sn tl) := by
                have h := HI2.out
                refine ⟨h.rows, h.bh, h.bt, h.on, ?_, by have := h.ls; omega, by have := h.lt; omega, h.ne, h.gt⟩
                rw [HRUN.out, if_pos ⟨rfl, hlive⟩]
              clear hlive
              go_wp2_with fail
              go_roundw
              case rel => exact ⟨k + 1, true, vs, vt, sn, tl, rfl, rfl, by omega, HI3⟩
              case measure => simp [intOf]; omega
            · rw [decide_eq_false hlive] at hlv
              cases hps : Lib.hasPrefix x [115, 32]
              · rw [hps] at HPS
                have HRZ : Hid (readL (r :: t) = (0, [], [])) := by
                  show _ = _
                  rw [HRD.out, if_neg hA0, HRUN.out, if_neg (by rintro ⟨_, h⟩; exact hlive h), if_neg (by rintro ⟨_, h⟩; rw [hps] at h; cases h), if_neg (by rintro ⟨h, _⟩; cases h)]
                have c0 : wr.cell? ⟨w.heap.size, 0, none⟩ = some (.int .i64 0) := blk_cell HI2.out.bt 0
                have c1 : wr.cell? ⟨w.heap.size, 1, none⟩ = some (.slice none 0 0) := blk_cell HI2.out.bt 1
                have c2 : wr.cell? ⟨w.heap.size, 2, none⟩ = some (.slice none 0 0) := blk_cell HI2.out.bt 2
                have f0 : wr.frozen? ⟨w.heap.size, 0, none⟩ = false := blk_frozen HI2.out.bt 0
                have f1 : wr.frozen? ⟨w.heap.size, 1, none⟩ = false := blk_frozen HI2.out.bt 1
                have f2 : wr.frozen? ⟨w.heap.size, 2, none⟩ = false := blk_frozen HI2.out.bt 2
                clear HRUN hlive hps
                go_wp2_with fail
                refine (HPS.out _).mono ?_
                rintro e w9 ⟨rfl, hw9⟩
                subst w9
                go_wp2_with fail
                refine half_ret (by rfl) (by rfl) (set3 HI2.out.bt _ _ _) ?_
                rw [ReadPost, HRZ.out]
                exact ⟨_, _, rfl, Rows2.nil _ _, set3_only HI2.out.on (Or.inr (Nat.le_refl _)) _ _ _⟩
              · rw [hps] at HPS
                obtain ⟨YB, hYB⟩ : ∃ YB, YB = mkS (x.drop 2) := ⟨_, rfl⟩
                rw [← hYB] at hdX
                have hx2 : (2 : Int) ≤ (XB.size : Int) := by have := h2s hps; omega
                have HRUN2 : Hid (bodyL t false [] [] = bodyL (t.drop (k + 1)) false (sn ++ [x.drop 2]) tl) := by
                  show _ = _
                  rw [HRUN.out, if_neg (by rintro ⟨_, h⟩; exact hlive h), if_pos ⟨rfl, hps⟩]
                have HYB : Hid (strV (x.drop 2) = .string YB) := by show _ = _; rw [hYB]; rfl
                have c1 : wr.cell? ⟨hb, 1, none⟩ = some vs := blk_cell HI2.out.bh 1
                have f1 : wr.frozen? ⟨hb, 1, none⟩ = false := blk_frozen HI2.out.bh 1
                have c1b : (wr.alloc (.cells #[.string YB] 9)).cell? ⟨hb, 1, none⟩ = some vs := blk_cell (blk_alloc HI2.out.bh _) 1
                have HXS := Lib.hid hXs
                have HLS : Hid (sn.length ≤ k) := HI2.out.ls
                have Hvs := Lib.hid (fun (W : World) (hW : Only [] wr W) => (HI2.out.rows.keep hW).s)
                obtain ⟨i0, hi, hz0, hz1, hz2⟩ := info_parts string_info
                clear hlive hps hYB hXs HRUN
                go_wp2_with fail
                refine (HPS.out _).mono ?_
                rintro e w9 ⟨rfl, hw9⟩
                subst w9
                go_wp2_with fail
                go_region_law ((refine step_append_lies _ (by rfl) _ _ 37 (by rfl) w.heap.size 9 i0 (.string ByteArray.empty) 1 16 Tryz.underlying37 hi hz0 hz1 hz2 rfl (by decide) vs _ _ (by rfl) (Hvs.out _ (((Only.refl [] wr).alloc _).drew)) ⟨wr.heap.size, 0, none⟩ 1 1 [.string YB] (by rfl) rfl (news_one wr _ _) (by intro u hu; simp at hu; subst hu; rfl) (by decide) (by have := HLS.out; unfold maxLen; omega) (by have := HLS.out; omega) (by have := HI2.out.on.size; simp; omega) (wr.heap.size + 1) (by simp) ?_; intro g9 cap9 w6 hown6 hgrow6 hat6 hlt6; obtain ⟨⟨xw, d1⟩, d2, hp6⟩ := HI2.out.growS (y := x.drop 2) (((Only.refl [] wr).alloc _).drew) (by rw [HYB.out]; exact hown6) hgrow6 (hat6.imp id (fun h => by omega)) (Nat.lt_succ_self k) HRUN2.out; have HP6 := Lib.hid hp6; clear hown6 hgrow6 hat6 hlt6 hp6))
                all_goals go_wp2_with fail
                all_goals go_roundw
                all_goals first | exact ⟨k + 1, false, _, _, _, _, rfl, rfl, by omega, HP6⟩ | (simp [intOf]; omega)
          · cases hpt : Lib.hasPrefix x [116, 32]
            · rw [hpt] at HPT
              have HRZ : Hid (readL (r :: t) = (0, [], [])) := by
                show _ = _
                rw [HRD.out, if_neg hA0, HRUN.out, if_neg (by rintro ⟨h, _⟩; cases h), if_neg (by rintro ⟨h, _⟩; cases h), if_neg (by rintro ⟨_, h⟩; rw [hpt] at h; cases h)]
              have c0 : wr.cell? ⟨w.heap.size, 0, none⟩ = some (.int .i64 0) := blk_cell HI2.out.bt 0
              have c1 : wr.cell? ⟨w.heap.size, 1, none⟩ = some (.slice none 0 0) := blk_cell HI2.out.bt 1
              have c2 : wr.cell? ⟨w.heap.size, 2, none⟩ = some (.slice none 0 0) := blk_cell HI2.out.bt 2
              have f0 : wr.frozen? ⟨w.heap.size, 0, none⟩ = false := blk_frozen HI2.out.bt 0
              have f1 : wr.frozen? ⟨w.heap.size, 1, none⟩ = false := blk_frozen HI2.out.bt 1
              have f2 : wr.frozen? ⟨w.heap.size, 2, none⟩ = false := blk_frozen HI2.out.bt 2
              clear HRUN hpt
              go_wp2_with fail
              refine (HPT.out _).mono ?_
              rintro e w9 ⟨rfl, hw9⟩
              subst w9
              go_wp2_with fail
              refine half_ret (by rfl) (by rfl) (set3 HI2.out.bt _ _ _) ?_
              rw [ReadPost, HRZ.out]
              exact ⟨_, _, rfl, Rows2.nil _ _, set3_only HI2.out.on (Or.inr (Nat.le_refl _)) _ _ _⟩
            · rw [hpt] at HPT
              obtain ⟨YB, hYB⟩ : ∃ YB, YB = mkS (x.drop 2) := ⟨_, rfl⟩
              rw [← hYB] at hdX
              have hx2 : (2 : Int) ≤ (XB.size : Int) := by have := h2t hpt; omega
              have HRUN2 : Hid (bodyL t false [] [] = bodyL (t.drop (k + 1)) true sn (tl ++ [x.drop 2])) := by
                show _ = _
                rw [HRUN.out, if_neg (by rintro ⟨h, _⟩; cases h), if_neg (by rintro ⟨h, _⟩; cases h), if_pos ⟨rfl, hpt⟩]
              have HYB : Hid (strV (x.drop 2) = .string YB) := by show _ = _; rw [hYB]; rfl
              have c1 : wr.cell? ⟨hb, 2, none⟩ = some vt := blk_cell HI2.out.bh 2
              have f1 : wr.frozen? ⟨hb, 2, none⟩ = false := blk_frozen HI2.out.bh 2
              have c1b : (wr.alloc (.cells #[.string YB] 9)).cell? ⟨hb, 2, none⟩ = some vt := blk_cell (blk_alloc HI2.out.bh _) 2
              have HXS := Lib.hid hXs
              have HLS : Hid (tl.length ≤ k) := HI2.out.lt
              have Hvt := Lib.hid (fun (W : World) (hW : Only [] wr W) => (HI2.out.rows.keep hW).t)
              obtain ⟨i0, hi, hz0, hz1, hz2⟩ := info_parts string_info
              clear hpt hYB hXs HRUN
              go_wp2_with fail
              refine (HPT.out _).mono ?_
              rintro e w9 ⟨rfl, hw9⟩
              subst w9
              go_wp2_with fail
              go_region_law ((refine step_append_lies _ (by rfl) _ _ 37 (by rfl) w.heap.size 9 i0 (.string ByteArray.empty) 1 16 Tryz.underlying37 hi hz0 hz1 hz2 rfl (by decide) vt _ _ (by rfl) (Hvt.out _ (((Only.refl [] wr).alloc _).drew)) ⟨wr.heap.size, 0, none⟩ 1 1 [.string YB] (by rfl) rfl (news_one wr _ _) (by intro u hu; simp at hu; subst hu; rfl) (by decide) (by have := HLS.out; unfold maxLen; omega) (by have := HLS.out; omega) (by have := HI2.out.on.size; simp; omega) (wr.heap.size + 1) (by simp) ?_; intro g9 cap9 w6 hown6 hgrow6 hat6 hlt6; obtain ⟨⟨xw, d1⟩, d2, hp6⟩ := HI2.out.growT (y := x.drop 2) (((Only.refl [] wr).alloc _).drew) (by rw [HYB.out]; exact hown6) hgrow6 (hat6.imp id (fun h => by omega)) (Nat.lt_succ_self k) HRUN2.out; have HP6 := Lib.hid hp6; clear hown6 hgrow6 hat6 hlt6 hp6))
              all_goals go_wp2_with fail
              all_goals go_roundw
              all_goals first | exact ⟨k + 1, true, _, _, _, _, rfl, rfl, by omega, HP6⟩ | (simp [intOf]; omega)
        · have hkE : k = M := by omega
          have hRUN := HI.out.run
          rw [List.drop_of_length_le (by have := HM.out; omega), bodyL] at hRUN
          have hcE : ¬ (k : Int) < (M : Int) := by omega
          have HI2 := Lib.hid HI.out
          clear HI
          cases is
          · have HRZ : Hid (readL (r :: t) = (0, [], [])) := by
              show _ = _
              rw [HRD.out, if_neg hA0, hRUN, if_neg (by simp)]
            clear hRUN
            have c0 : wr.cell? ⟨w.heap.size, 0, none⟩ = some (.int .i64 0) := blk_cell HI2.out.bt 0
            have c1 : wr.cell? ⟨w.heap.size, 1, none⟩ = some (.slice none 0 0) := blk_cell HI2.out.bt 1
            have c2 : wr.cell? ⟨w.heap.size, 2, none⟩ = some (.slice none 0 0) := blk_cell HI2.out.bt 2
            have f0 : wr.frozen? ⟨w.heap.size, 0, none⟩ = false := blk_frozen HI2.out.bt 0
            have f1 : wr.frozen? ⟨w.heap.size, 1, none⟩ = false := blk_frozen HI2.out.bt 1
            have f2 : wr.frozen? ⟨w.heap.size, 2, none⟩ = false := blk_frozen HI2.out.bt 2
            go_wp2_with fail
            refine half_ret (by rfl) (by rfl) (set3 HI2.out.bt _ _ _) ?_
            rw [ReadPost, HRZ.out]
            exact ⟨_, _, rfl, Rows2.nil _ _, set3_only HI2.out.on (Or.inr (Nat.le_refl _)) _ _ _⟩
          · have HRZ : Hid (readL (r :: t) = (A, sn, tl)) := by
              show _ = _
              rw [HRD.out, if_neg hA0, hRUN, if_pos rfl]
            clear hRUN
            obtain ⟨a1, n1, q1, rfl⟩ := own_slice HI2.out.rows.s
            obtain ⟨a2, n2, q2, rfl⟩ := own_slice HI2.out.rows.t
            have c0 : wr.cell? ⟨w.heap.size, 0, none⟩ = some (.int .i64 0) := blk_cell HI2.out.bt 0
            have c1 : wr.cell? ⟨w.heap.size, 1, none⟩ = some (.slice none 0 0) := blk_cell HI2.out.bt 1
            have c2 : wr.cell? ⟨w.heap.size, 2, none⟩ = some (.slice none 0 0) := blk_cell HI2.out.bt 2
            have f0 : wr.frozen? ⟨w.heap.size, 0, none⟩ = false := blk_frozen HI2.out.bt 0
            have f1 : wr.frozen? ⟨w.heap.size, 1, none⟩ = false := blk_frozen HI2.out.bt 1
            have f2 : wr.frozen? ⟨w.heap.size, 2, none⟩ = false := blk_frozen HI2.out.bt 2
            have d0 : wr.cell? ⟨hb, 0, none⟩ = some (.int .i64 A) := blk_cell HI2.out.bh 0
            have d1 : wr.cell? ⟨hb, 1, none⟩ = some (.slice a1 n1 q1) := blk_cell HI2.out.bh 1
            have d2 : wr.cell? ⟨hb, 2, none⟩ = some (.slice a2 n2 q2) := blk_cell HI2.out.bh 2
            go_wp2_with fail
            refine half_ret (by rfl) (by rfl) (set3 HI2.out.bt _ _ _) ?_
            rw [ReadPost, HRZ.out]
            have ho := set3_only (tb := w.heap.size) (Only.refl [w.heap.size] wr) (Or.inl (by simp)) (.int .i64 A) (.slice a1 n1 q1) (.slice a2 n2 q2)
            exact ⟨_, _, rfl, HI2.out.rows.off ho (fun x hx => by rw [List.mem_singleton.1 hx]; exact ⟨_, _, _, HI2.out.bt, by decide⟩), set3_only HI2.out.on (Or.inr (Nat.le_refl _)) _ _ _⟩
/-- Read, of a row that is owned. -/
theorem read_of {w : World} {base : Nat} {v : Value} {l : List Bs} (h : w.ownsRow base 9 1 v l.length (l.map strV)) (hl : l.length ≤ 100000) (hx : ∀ x ∈ l, x.length ≤ 100000) (hv : Vars w) :
    Calls Tryz.prog 31 #[v] w (ReadPost l w) := by
  have hcells := own_cells h
  obtain ⟨h1, h2⟩ := h
  rcases h2 with ⟨hv0, hn⟩ | ⟨g, cap, cur, hv0, hg, hb, hn, hc, hs, ht⟩
  · rw [List.eq_nil_of_length_eq_zero hn, hv0]
    exact read_none none 0 w
  · cases l with
    | nil => rw [hv0]; exact read_none _ _ w
    | cons r t =>
      rcases hcells with ⟨h3, _⟩ | ⟨g2, cap2, h3, _, hcl⟩
      · rw [h3] at hv0; cases hv0
      · rw [h3] at hv0
        injection hv0 with e1 e2 e3
        subst e3
        rw [h3]
        exact read_some hcl hn hl hx hv
end Go.Proofs.YtngcdkbnljoodaaGreatDoor

