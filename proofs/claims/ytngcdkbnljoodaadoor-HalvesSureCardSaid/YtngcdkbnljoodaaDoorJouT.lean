/- The journal's Part, Open, Records, Room walk. No conditions beyond those typed. -/
import Derived.Test.YtngcdkbnljoodaaDoorJouR
namespace Go.Proofs.YtngcdkbnljoodaaDoor
set_option linter.unusedVariables false
set_option linter.unusedSimpArgs false
open Go.RowKit Go.Proofs.YtngcdkbnljoodaaDoorW.PrintWords

theorem own_cells {w : World} {base : Nat} {v : Value} {l : List Bs} (h : w.ownsRow base 9 1 v l.length (l.map strV)) :
    (v = .slice none 0 0 ∧ l = []) ∨ ∃ g cap, v = .slice (some ⟨g, 0, none⟩) l.length cap ∧ base ≤ g ∧ ∀ j x, l[j]? = some x → w.cell? ⟨g, j, none⟩ = some (strV x) := by
  obtain ⟨h1, h2⟩ := h
  rcases h2 with ⟨hv, hn⟩ | ⟨g, cap, cur, hv, hg, hb, hn, hc, hs, ht⟩
  · exact Or.inl ⟨hv, List.eq_nil_of_length_eq_zero hn⟩
  · refine Or.inr ⟨g, cap, hv, hg, fun j x hx => ?_⟩
    rw [blk_cell hb]
    have hj : j < l.length := (List.getElem?_eq_some_iff.1 hx).1
    have := congrArg (fun L => L[j]?) ht
    simp only [List.getElem?_map, hx, Option.map_some, Nat.mul_one] at this
    rw [List.getElem?_take, if_pos hj] at this
    simpa using this
theorem clone_of {w : World} {base : Nat} {v : Value} {l : List Bs} (h : w.ownsRow base 9 1 v l.length (l.map strV)) (hl : l.length * 16 ≤ 140737488355328) :
    Calls Tryd.prog 28 #[v] w fun e w' => ∃ v', e = .returned v' ∧ w'.ownsRow w.heap.size 9 1 v' l.length (l.map strV) ∧ Below w.heap.size w w' := by
  rcases own_cells h with ⟨rfl, rfl⟩ | ⟨g, cap, rfl, hg, hc⟩
  · refine (Tryd.slices_Clone_string_nil 0 0 w).mono ?_
    rintro e w' ⟨rfl, rfl⟩
    exact ⟨_, rfl, World.ownsRow_nil _ _ _ _, Below.refl _ _⟩
  · refine (Tryd.slices_Clone_string g 0 l.length cap (l.map mkS) w (by simp) hl (fun j hj => ?_)).mono ?_
    · have hj' : j < l.length := by simpa using hj
      rw [Nat.zero_add, hc j l[j] (List.getElem?_eq_getElem hj')]
      rw [List.getD_eq_getElem?_getD, List.getElem?_map, List.getElem?_eq_getElem hj']
      rfl
    · rintro e w' ⟨v', rfl, hown, _, hb⟩
      refine ⟨v', rfl, ?_, hb⟩
      rw [List.take_of_length_le (by simp), List.map_map] at hown
      exact hown
def jnC (p : Nat) (pf nb : Int) (v : Value) (fin : Int) (over : Bool) : Array Value := #[.pointer (some ⟨p, 0, none⟩), .int .i64 pf, .int .i64 nb, v, .int .i64 fin, .bool over]
/-- Block j is a journal of a part of a store. -/
structure JnIs (w : World) (j : Nat) (rb : Option Nat) (p pf nb : Nat) (l : List Bs) (fin : Nat) (over : Bool) : Prop where
  ex : ∃ v, w.heap[j]? = some (.cells (jnC p pf nb v fin over) 75 (0, 0)) ∧ w.ownsRow 0 9 1 v l.length (l.map strV) ∧ v.ownBlock = rb
theorem own_keep {S : List Nat} {w w' : World} {base : Nat} {e : TypeId} {v : Value} {n : Nat} {xs : List Value} (h : w.ownsRow base e 1 v n xs) (ho : Only S w w') (hS : ∀ g, v.ownBlock = some g → g ∉ S) : w'.ownsRow base e 1 v n xs := by
  obtain ⟨h1, h2⟩ := h
  refine ⟨h1, ?_⟩
  rcases h2 with h2 | ⟨g, cap, cur, hv, hg, hb, r⟩
  · exact Or.inl h2
  · exact Or.inr ⟨g, cap, cur, hv, hg, ho.blk hb (hS g (by rw [hv]; rfl)), r⟩
theorem JnIs.only {S : List Nat} {w w' : World} {j p pf nb : Nat} {rb : Option Nat} {l : List Bs} {fin : Nat} {o : Bool} (h : JnIs w j rb p pf nb l fin o) (ho : Only S w w') (h1 : j ∉ S) (h2 : ∀ g, rb = some g → g ∉ S) : JnIs w' j rb p pf nb l fin o := by
  obtain ⟨v, a, b, c⟩ := h.ex
  exact ⟨v, ho.blk a h1, own_keep b ho (fun g hg => h2 g (c ▸ hg)), c⟩
theorem own_of_only {S : List Nat} {w w' : World} {base : Nat} {v : Value} {n : Nat} {xs : List Value} (h : w.ownsRow base 9 1 v n xs) (ho : Only S w w') (hS : ∀ k, k ∈ S → ∃ cs t fr, w.heap[k]? = some (.cells cs t fr) ∧ t ≠ 9) : w'.ownsRow base 9 1 v n xs := by
  obtain ⟨h1, h2⟩ := h
  refine ⟨h1, ?_⟩
  rcases h2 with h2 | ⟨g, cap, cur, hv, hg, hb, r⟩
  · exact Or.inl h2
  · refine Or.inr ⟨g, cap, cur, hv, hg, ho.blk hb (fun hm => ?_), r⟩
    obtain ⟨cs, t, fr, hk, ht⟩ := hS g hm
    rw [hb] at hk
    cases hk
    exact ht rfl
theorem store_types {w : World} {p b : Nat} {s : St} (h : StoreIs w p b s) : ∀ k, k ∈ [p, b] → ∃ cs t fr, w.heap[k]? = some (.cells cs t fr) ∧ t ≠ 9 := by
  obtain ⟨_, _, ⟨wr, h1⟩, h2⟩ := h
  intro k hk
  rcases List.mem_cons.1 hk with rfl | hk
  · exact ⟨_, _, _, h1, by decide⟩
  · rw [List.mem_singleton.1 hk]; exact ⟨_, _, _, h2, by decide⟩
/-- What opening a part does. -/
def PartPost (s : St) (p b : Nat) (pf nb : Int) (w : World) (e : Ending) (w' : World) : Prop := Only [p, b] w w' ∧
  ((isB s.n pf nb = false ∧ e = .returned (.tuple #[.pointer none, .slice none 0 0, .int .i64 1]) ∧ StoreIs w' p b s) ∨
    (∃ (a c : Nat) (l : List Bs) (t : Bs), pf = a ∧ nb = c ∧ s.Has a c ∧ IsScan (partB s a c) l t ∧ StoreIs w' p b (openS s a c (frames l).length).1 ∧
      (((openS s a c (frames l).length).2 ≠ 0 ∧ e = .returned (.tuple #[.pointer none, .slice none 0 0, .int .i64 (openS s a c (frames l).length).2])) ∨
        ((openS s a c (frames l).length).2 = 0 ∧ ∃ (j : Nat) (rb : Option Nat) (v : Value), w.heap.size ≤ j ∧ (∀ g, rb = some g → w.heap.size ≤ g) ∧ e = .returned (.tuple #[.pointer (some ⟨j, 0, none⟩), v, .int .i64 0]) ∧
          JnIs w' j rb p a c l (frames l).length false ∧ w'.ownsRow w.heap.size 9 1 v l.length (l.map strV) ∧ ∀ g, v.ownBlock = some g → rb ≠ some g))))
set_option maxHeartbeats 4000000 in
set_option maxRecDepth 100000 in
theorem part_no {w : World} {p b : Nat} {s : St} (h : StoreIs w p b s) (pf nb : Int) (hB : isB s.n pf nb = false) :
    Calls Tryd.prog 23 #[.pointer (some ⟨p, 0, none⟩), .int .i64 pf, .int .i64 nb] w (PartPost s p b pf nb w) := by
  have h1 := h.alloc (.cells #[.pointer (some ⟨p, 0, none⟩), .int .i64 pf, .int .i64 nb] 67)
  have his := is_of h1 pf nb
  rw [hB] at his
  have HB := Lib.hid hB
  have HIS := Lib.hid his
  have HS := Lib.hid h1
  clear hB his h h1
  go_enter Tryd.func23, Tryd.ntmps23
  go_wp2_with fail
  refine (HIS.out).mono ?_
  rintro e w1 ⟨rfl, hb⟩
  go_wp2_with fail
  go_ret3
  exact ⟨((Only.refl _ _).alloc _).tr (Only.of_below hb), Or.inl ⟨HB.out, rfl, HS.out.below hb⟩⟩
set_option maxHeartbeats 4000000 in
set_option maxRecDepth 100000 in
theorem part_yes {w : World} {p b : Nat} {s : St} (h : StoreIs w p b s) (a c : Nat) (hh : s.Has a c) :
    Calls Tryd.prog 23 #[.pointer (some ⟨p, 0, none⟩), .int .i64 (a : Int), .int .i64 (c : Int)] w (PartPost s p b a c w) := by
  have hn := h.wf.hi
  have hl := h.lt
  have hwf := h.wf
  have h1 := h.alloc (.cells #[.pointer (some ⟨p, 0, none⟩), .int .i64 (a : Int), .int .i64 (c : Int)] 67)
  have his := is_of h1 (a : Int) (c : Int)
  rw [isB_has hh] at his
  have HIS := Lib.hid his
  have HS := Lib.hid h1
  have hpl := partB_length h.wf hh
  have hh2 := hh.2
  have HH := Lib.hid hh
  have HWF := Lib.hid hwf
  clear his h h1 hh hwf
  go_enter Tryd.func23, Tryd.ntmps23
  go_wp2_with fail
  refine (HIS.out).mono ?_
  rintro e w1 ⟨rfl, hb⟩
  have hx := fun i => blk_cells hb (g := w.heap.size) (by simp) i
  have x0 : w1.cell? ⟨w.heap.size, 0, none⟩ = some (.pointer (some ⟨p, 0, none⟩)) := (hx 0).trans (blk_cell (blk_new w _) 0)
  have x1 : w1.cell? ⟨w.heap.size, 1, none⟩ = some (.int .i64 (a : Int)) := (hx 1).trans (blk_cell (blk_new w _) 1)
  have x2 : w1.cell? ⟨w.heap.size, 2, none⟩ = some (.int .i64 (c : Int)) := (hx 2).trans (blk_cell (blk_new w _) 2)
  have HS1 := Lib.hid (HS.out.below hb)
  have HB1 := Lib.hid (((Below.refl w.heap.size w).alloc (Nat.le_refl _) _).trans (hb.mono (by simp)))
  have hlt1 : w.heap.size < w1.heap.size := by have := hb.size; simp at this; omega
  clear hb hx
  go_wp2_with fail
  refine (pbytes_of HS1.out a c HH.out).mono ?_
  rintro e w2 ⟨rfl, hb⟩
  have x0 := (blk_cells hb hlt1 0).trans x0
  have x1 := (blk_cells hb hlt1 1).trans x1
  have x2 := (blk_cells hb hlt1 2).trans x2
  have HS2 := Lib.hid (HS1.out.below hb)
  have HB2 := Lib.hid (HB1.out.trans (hb.mono HB1.out.size))
  have hlt2 : w.heap.size < w2.heap.size := Nat.lt_of_lt_of_le hlt1 hb.size
  clear hb
  go_wp2_with fail
  refine (Scan_of (mkS (partB s a c)) (by rw [size_mkS, hpl]; omega) _).mono ?_
  rintro e w3 ⟨v, l, t, rfl, hsc, hown, hb⟩
  rw [list_mkS] at hsc
  have x0 := (blk_cells hb hlt2 0).trans x0
  have x1 := (blk_cells hb hlt2 1).trans x1
  have x2 := (blk_cells hb hlt2 2).trans x2
  obtain ⟨ao, n1, cap, rfl⟩ := own_slice hown
  have HSC := Lib.hid hsc
  have hfl : (frames l).length ≤ 32 * c := by
    have := congrArg List.length hsc.eq
    rw [List.length_append] at this
    omega
  have HO := Lib.hid (own_mono hown HB2.out.size)
  have HS3 := Lib.hid (HS2.out.below hb)
  have HB3 := Lib.hid (HB2.out.trans (hb.mono HB2.out.size))
  have hlt3 : w.heap.size < w3.heap.size := Nat.lt_of_lt_of_le hlt2 hb.size
  clear hsc hown hb HS HS1 HS2 HB1 HB2 HIS
  obtain ⟨M, hM⟩ : ∃ M, M = mkS (partB s a c) := ⟨_, rfl⟩
  rw [← hM]
  have hMs : (M.size : Int) = ((32 * c : Nat) : Int) := by rw [hM, size_mkS, hpl]
  have hMl : M.data.toList = partB s a c := by rw [hM, list_mkS]
  have HCL : Hid (∀ W, Calls Tryd.prog 39 #[.string M, .int .i64 ((frames l).length : Int)] W fun e w' => e = .returned (.string (mkS (openAll (partB s a c) (frames l).length))) ∧ Below W.heap.size W w') := fun W => by
    have := cleared_of M (frames l).length (by omega) (by omega) W
    rwa [hMl] at this
  have HPU : Hid (∀ W, StoreIs W p b s → Calls Tryd.prog 38 #[.agg #[.pointer (some ⟨p, 0, none⟩), .int .i64 (a : Int), .int .i64 (c : Int)], .string (mkS (openAll (partB s a c) (frames l).length)), .int .i64 ((frames l).length : Int), .int .i64 (M.size : Int), .bool false] W fun e w' =>
      e = .returned (.int .i64 (openS s a c (frames l).length).2) ∧ StoreIs w' p b (openS s a c (frames l).length).1 ∧ Only [p, b] W w') := fun W hW => by
    have h2 := put_of hW a c HH.out (mkS (openAll (partB s a c) (frames l).length)) (by rw [size_mkS, openAll_length _ _ (by omega), hpl]) (frames l).length (32 * c) (by omega) (Nat.le_refl _) false
    rw [list_mkS, show (32 * c + 31) / 32 = c by omega] at h2
    rw [hMs]
    exact h2
  generalize hq : openS s a c (frames l).length = q at *
  have HQ := Lib.hid hq
  clear hq
  generalize mkS (openAll (partB s a c) (frames l).length) = Z at *
  generalize hF : (frames l).length = F at *
  have HF := Lib.hid hF
  clear hMl hM hpl hMs hF
  go_wp2_with fail
  go_region_held3 (fun w' => w'.cell? ⟨w.heap.size, 0, none⟩ = some (.pointer (some ⟨p, 0, none⟩)) ∧ w'.cell? ⟨w.heap.size, 1, none⟩ = some (.int .i64 (a : Int)) ∧ w'.cell? ⟨w.heap.size, 2, none⟩ = some (.int .i64 (c : Int)))
    (go_keep)
    (first
      | (go_at_call 39; refine (HCL.out _).mono ?_; rintro e w4 ⟨rfl, hb⟩; have HS4 := Lib.hid (HS3.out.drew.below hb); have HB4 := Lib.hid (HB3.out.drew.trans (hb.mono HB3.out.size)); have HO4 := Lib.hid (pw_own_below (w := w3.drew) HO.out hb); have x0 := (blk_cells hb hlt3 0).trans x0; have x1 := (blk_cells hb hlt3 1).trans x1; have x2 := (blk_cells hb hlt3 2).trans x2; have hlt4 : w.heap.size < w4.heap.size := Nat.lt_of_lt_of_le hlt3 hb.size)
      | (go_at_call 38; refine (HPU.out _ HS4.out).mono ?_; rintro e w5 ⟨rfl, hst, ho⟩; have HS5 := Lib.hid hst; have HB5 := Lib.hid ((Only.of_below (S := [p, b]) HB4.out).tr ho); have HO5 := Lib.hid (own_of_only HO4.out ho (store_types HS4.out)); have y0 : w5.cell? ⟨w.heap.size, 0, none⟩ = some (.pointer (some ⟨p, 0, none⟩)) := (World.cell?_of_block (ho.block w.heap.size hlt4 (by simp; omega))).trans x0; have y1 : w5.cell? ⟨w.heap.size, 1, none⟩ = some (.int .i64 (a : Int)) := (World.cell?_of_block (ho.block w.heap.size hlt4 (by simp; omega))).trans x1; have y2 : w5.cell? ⟨w.heap.size, 2, none⟩ = some (.int .i64 (c : Int)) := (World.cell?_of_block (ho.block w.heap.size hlt4 (by simp; omega))).trans x2))
  have hlt5 : w.heap.size < w5.heap.size := Nat.lt_of_lt_of_le hlt4 ho.size
  have HC5 : Hid (∀ W, Only [] w5 W → Calls Tryd.prog 28 #[.slice ao n1 cap] W fun e w' => ∃ v', e = .returned v' ∧ w'.ownsRow w5.heap.size 9 1 v' l.length (l.map strV) ∧ Below W.heap.size W w' ∧ Only [] w5 w' ∧
      w'.cell? ⟨w.heap.size, 0, none⟩ = some (.pointer (some ⟨p, 0, none⟩)) ∧ w'.cell? ⟨w.heap.size, 1, none⟩ = some (.int .i64 (a : Int)) ∧ w'.cell? ⟨w.heap.size, 2, none⟩ = some (.int .i64 (c : Int))) := fun W hW => by
    refine (clone_of (own_of_only HO5.out hW (by simp)) (by have := frames_count l; rw [HF.out] at this; omega)).mono ?_
    rintro e w' ⟨v', rfl, hown, hbel⟩
    have hO : Only [] w5 w' := hW.tr (Only.of_below hbel)
    exact ⟨v', rfl, own_mono hown hW.size, hbel, hO, (World.cell?_of_block (hO.block _ hlt5 (by simp))).trans y0, (World.cell?_of_block (hO.block _ hlt5 (by simp))).trans y1, (World.cell?_of_block (hO.block _ hlt5 (by simp))).trans y2⟩
  have hlt5' := hlt5
  by_cases hq2 : q.2 = 0
  · have hne : (q.2 != 0) = false := by rw [hq2]; rfl
    have HQ2 := Lib.hid hq2
    clear hq2 hb x0 x1 x2
    go_wp2_with fail
    go_region_held3 (fun w' => w'.cell? ⟨w.heap.size, 0, none⟩ = some (.pointer (some ⟨p, 0, none⟩)) ∧ w'.cell? ⟨w.heap.size, 1, none⟩ = some (.int .i64 (a : Int)) ∧ w'.cell? ⟨w.heap.size, 2, none⟩ = some (.int .i64 (c : Int)))
      (go_keep)
      (first | (go_at_call 28; refine (HC5.out _ (by first | exact (Only.refl [] w5).drew | exact ((Only.refl [] w5).alloc _).drew | exact (Only.refl [] w5).drew.alloc _)).mono ?_; rintro e w6 ⟨v', rfl, hown', hb6, ho6, z0, z1, z2⟩; have HO6 := Lib.hid hown'; have HB6 := Lib.hid hb6; have HQ6 := Lib.hid ho6; clear hown' hb6 ho6))
    all_goals go_wp2_with fail
    · go_ret3
      exact ⟨HB5.out.tr (HQ6.out.mono (by simp)), Or.inr ⟨a, c, l, t, rfl, rfl, HH.out, HSC.out, by rw [HF.out, HQ.out]; exact HS5.out.only HQ6.out (by simp) (by simp), Or.inr ⟨by rw [HF.out, HQ.out]; exact HQ2.out, w5.heap.size, _, v', Nat.le_of_lt hlt5', fun g hg => (HO5.out.lt g hg).1, rfl,
        ⟨_, by rw [HF.out]; exact blk_below (blk_new w5.drew _) HB6.out, own_mono (own_of_only HO5.out HQ6.out (by simp)) (Nat.zero_le _), rfl⟩, own_mono HO6.out (Nat.le_of_lt hlt5'), fun g hg he => by have h1 := (HO6.out.lt g hg).1; have h2 := (HO5.out.lt g he).2; omega⟩⟩⟩
    · go_ret3
      have hO6 := HQ6.out.alloc (.cells #[.pointer (some ⟨p, 0, none⟩), .int .i64 (a : Int), .int .i64 (c : Int), .slice ao n1 cap, .int .i64 (F : Int), .bool false] 75)
      exact ⟨HB5.out.tr (hO6.mono (by simp)), Or.inr ⟨a, c, l, t, rfl, rfl, HH.out, HSC.out, by rw [HF.out, HQ.out]; exact HS5.out.only hO6 (by simp) (by simp), Or.inr ⟨by rw [HF.out, HQ.out]; exact HQ2.out, w6.heap.size, _, v', by have := HQ6.out.size; omega, fun g hg => (HO5.out.lt g hg).1, rfl,
        ⟨_, by rw [HF.out]; exact blk_new w6 _, own_mono (own_of_only HO5.out hO6 (by simp)) (Nat.zero_le _), rfl⟩, own_mono (HO6.out.alloc _) (Nat.le_of_lt hlt5'), fun g hg he => by have h1 := (HO6.out.lt g hg).1; have h2 := (HO5.out.lt g he).2; omega⟩⟩⟩
  · have hne : (q.2 != 0) = true := by rw [bne_iff_ne]; exact hq2
    have HQ2 := Lib.hid hq2
    clear hq2 hb x0 x1 x2
    go_wp2_with fail
    go_ret3
    exact ⟨HB5.out, Or.inr ⟨a, c, l, t, rfl, rfl, HH.out, HSC.out, by rw [HF.out, HQ.out]; exact HS5.out, Or.inl ⟨by rw [HF.out, HQ.out]; exact HQ2.out, by rw [HF.out, HQ.out]; rfl⟩⟩⟩
theorem part_of {w : World} {p b : Nat} {s : St} (h : StoreIs w p b s) (pf nb : Int) :
    Calls Tryd.prog 23 #[.pointer (some ⟨p, 0, none⟩), .int .i64 pf, .int .i64 nb] w (PartPost s p b pf nb w) := by
  cases hB : isB s.n pf nb
  · exact part_no h pf nb hB
  · obtain ⟨a, c, rfl, rfl, hh⟩ := isB_true hB
    exact part_yes h a c hh
theorem jnF {w : World} {j p : Nat} {pf nb : Int} {v : Value} {fin : Int} {o : Bool} (h : w.heap[j]? = some (.cells (jnC p pf nb v fin o) 75 (0, 0))) :
    w.cell? ⟨j, 0, none⟩ = some (.pointer (some ⟨p, 0, none⟩)) ∧ w.cell? ⟨j, 1, none⟩ = some (.int .i64 pf) ∧ w.cell? ⟨j, 2, none⟩ = some (.int .i64 nb) ∧ w.cell? ⟨j, 3, none⟩ = some v ∧ w.cell? ⟨j, 4, none⟩ = some (.int .i64 fin) ∧ w.cell? ⟨j, 5, none⟩ = some (.bool o) ∧
    w.frozen? ⟨j, 0, none⟩ = false ∧ w.frozen? ⟨j, 1, none⟩ = false ∧ w.frozen? ⟨j, 2, none⟩ = false ∧ w.frozen? ⟨j, 3, none⟩ = false ∧ w.frozen? ⟨j, 4, none⟩ = false ∧ w.frozen? ⟨j, 5, none⟩ = false :=
  ⟨blk_cell h 0, blk_cell h 1, blk_cell h 2, blk_cell h 3, blk_cell h 4, blk_cell h 5, blk_frozen h 0, blk_frozen h 1, blk_frozen h 2, blk_frozen h 3, blk_frozen h 4, blk_frozen h 5⟩
set_option maxHeartbeats 2000000 in
theorem room_of {w : World} {j p pf nb : Nat} {rb : Option Nat} {l : List Bs} {fin : Nat} {o : Bool} (h : JnIs w j rb p pf nb l fin o) (hn : nb ≤ 256) (hf : fin ≤ 32 * nb) :
    Calls Tryd.prog 29 #[.pointer (some ⟨j, 0, none⟩)] w fun e w' => e = .returned (.int .i64 (32 * (nb : Int) - (fin : Int))) ∧ ∃ k, w' = w.drewN k := by
  obtain ⟨v, hj, hown, hrb⟩ := h.ex
  obtain ⟨c0, c1, c2, c3, c4, c5, f0, f1, f2, f3, f4, f5⟩ := jnF hj
  have s1 : IntKind.i64.wrap ((nb : Int) * 32) = (nb : Int) * 32 := IntWalk.i64_in _ (by omega)
  have s2 : IntKind.i64.wrap ((nb : Int) * 32 - (fin : Int)) = (nb : Int) * 32 - (fin : Int) := IntWalk.i64_in _ (by omega)
  clear hj hown h hrb
  go_enter Tryd.func29, Tryd.ntmps29
  go_wp2
  go_quiet (fail)
  go_wp2
  go_ret
  exact ⟨by rw [show (32 * (nb : Int) - (fin : Int)) = (nb : Int) * 32 - (fin : Int) by omega]; rfl, _, rfl⟩
end Go.Proofs.YtngcdkbnljoodaaDoor

