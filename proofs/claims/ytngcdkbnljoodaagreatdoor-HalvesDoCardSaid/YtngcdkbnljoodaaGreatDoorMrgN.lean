/- The journal's Part, Open, Records, Room walk. No conditions beyond those typed. The journal's Append walks. No conditions beyond those typed. -/
import Derived.Test.YtngcdkbnljoodaaGreatDoorJouR
import Derived.Maps.AppendAt
namespace Go.Proofs.YtngcdkbnljoodaaGreatDoor
set_option linter.unusedVariables false
set_option linter.unusedSimpArgs false
open Go.RowKit Go.Proofs.YtngcdkbnljoodaaGreatDoorW.PrintWords

theorem own_cells {w : World} {base : Nat} {v : Value} {l : List Bs} (h : w.ownsRow base 9 1 v l.length (l.map strV)) :
    (v = .slice none 0 0 ∧ l = []) ∨ ∃ g cap, v = .slice (some ⟨g, 0, none⟩) l.length cap ∧ base ≤ g ∧ ∀ j x, l[j]? = some x → w.cell? ⟨g, j, none⟩ = some (strV x) := by
  obtain ⟨h1, h2⟩ := h
  rcases h2 with ⟨hv, hn⟩ | ⟨g, cap, cur, hv, hg, hb, hn, hc, hs, ht⟩
  · exact Or.inl ⟨hv, List.eq_nil_of_length_eq_zero hn⟩
  · refine Or.inr ⟨g, cap, hv, hg, fun j x hx => ?_⟩
    rw [blk_cell hb]
    have hj : j < l.length := (List.getElem?_eq_some_iff.1 hx).1
    have := congrArg (fun L => L[j]?) ht
    simp only [List.getElem?_map, hx, Option.map_some, Nat.mul_one] at this
    rw [List.getElem?_take, if_pos hj] at this
    simpa using this
theorem clone_of {w : World} {base : Nat} {v : Value} {l : List Bs} (h : w.ownsRow base 9 1 v l.length (l.map strV)) (hl : l.length * 16 ≤ 140737488355328) :
    Calls Tryz.prog 44 #[v] w fun e w' => ∃ v', e = .returned v' ∧ w'.ownsRow w.heap.size 9 1 v' l.length (l.map strV) ∧ Below w.heap.size w w' := by
  rcases own_cells h with ⟨rfl, rfl⟩ | ⟨g, cap, rfl, hg, hc⟩
  · refine (Tryz.slices_Clone_string_nil 0 0 w).mono ?_
    rintro e w' ⟨rfl, rfl⟩
    exact ⟨_, rfl, World.ownsRow_nil _ _ _ _, Below.refl _ _⟩
  · refine (Tryz.slices_Clone_string g 0 l.length cap (l.map mkS) w (by simp) hl (fun j hj => ?_)).mono ?_
    · have hj' : j < l.length := by simpa using hj
      rw [Nat.zero_add, hc j l[j] (List.getElem?_eq_getElem hj')]
      rw [List.getD_eq_getElem?_getD, List.getElem?_map, List.getElem?_eq_getElem hj']
      rfl
    · rintro e w' ⟨v', rfl, hown, _, hb⟩
      refine ⟨v', rfl, ?_, hb⟩
      rw [List.take_of_length_le (by simp), List.map_map] at hown
      exact hown
def jnC (p : Nat) (pf nb : Int) (v : Value) (fin : Int) (over : Bool) : Array Value := #[.pointer (some ⟨p, 0, none⟩), .int .i64 pf, .int .i64 nb, v, .int .i64 fin, .bool over]
/-- Block j is a journal of a part of a store. -/
structure JnIs (w : World) (j : Nat) (rb : Option Nat) (p pf nb : Nat) (l : List Bs) (fin : Nat) (over : Bool) : Prop where
  ex : ∃ v, w.heap[j]? = some (.cells (jnC p pf nb v fin over) 107 (0, 0)) ∧ w.ownsRow 0 9 1 v l.length (l.map strV) ∧ v.ownBlock = rb
theorem own_keep {S : List Nat} {w w' : World} {base : Nat} {e : TypeId} {v : Value} {n : Nat} {xs : List Value} (h : w.ownsRow base e 1 v n xs) (ho : Only S w w') (hS : ∀ g, v.ownBlock = some g → g ∉ S) : w'.ownsRow base e 1 v n xs := by
  obtain ⟨h1, h2⟩ := h
  refine ⟨h1, ?_⟩
  rcases h2 with h2 | ⟨g, cap, cur, hv, hg, hb, r⟩
  · exact Or.inl h2
  · exact Or.inr ⟨g, cap, cur, hv, hg, ho.blk hb (hS g (by rw [hv]; rfl)), r⟩
theorem JnIs.only {S : List Nat} {w w' : World} {j p pf nb : Nat} {rb : Option Nat} {l : List Bs} {fin : Nat} {o : Bool} (h : JnIs w j rb p pf nb l fin o) (ho : Only S w w') (h1 : j ∉ S) (h2 : ∀ g, rb = some g → g ∉ S) : JnIs w' j rb p pf nb l fin o := by
  obtain ⟨v, a, b, c⟩ := h.ex
  exact ⟨v, ho.blk a h1, own_keep b ho (fun g hg => h2 g (c ▸ hg)), c⟩
theorem own_of_only {S : List Nat} {w w' : World} {base : Nat} {v : Value} {n : Nat} {xs : List Value} (h : w.ownsRow base 9 1 v n xs) (ho : Only S w w') (hS : ∀ k, k ∈ S → ∃ cs t fr, w.heap[k]? = some (.cells cs t fr) ∧ t ≠ 9) : w'.ownsRow base 9 1 v n xs := by
  obtain ⟨h1, h2⟩ := h
  refine ⟨h1, ?_⟩
  rcases h2 with h2 | ⟨g, cap, cur, hv, hg, hb, r⟩
  · exact Or.inl h2
  · refine Or.inr ⟨g, cap, cur, hv, hg, ho.blk hb (fun hm => ?_), r⟩
    obtain ⟨cs, t, fr, hk, ht⟩ := hS g hm
    rw [hb] at hk
    cases hk
    exact ht rfl
theorem store_types {w : World} {p b : Nat} {s : St} (h : StoreIs w p b s) : ∀ k, k ∈ [p, b] → ∃ cs t fr, w.heap[k]? = some (.cells cs t fr) ∧ t ≠ 9 := by
  obtain ⟨_, _, ⟨wr, h1⟩, h2⟩ := h
  intro k hk
  rcases List.mem_cons.1 hk with rfl | hk
  · exact ⟨_, _, _, h1, by decide⟩
  · rw [List.mem_singleton.1 hk]; exact ⟨_, _, _, h2, by decide⟩
/-- What opening a part does. -/
def PartPost (s : St) (p b : Nat) (pf nb : Int) (w : World) (e : Ending) (w' : World) : Prop := Only [p, b] w w' ∧
  ((isB s.n pf nb = false ∧ e = .returned (.tuple #[.pointer none, .slice none 0 0, .int .i64 1]) ∧ StoreIs w' p b s) ∨
    (∃ (a c : Nat) (l : List Bs) (t : Bs), pf = a ∧ nb = c ∧ s.Has a c ∧ IsScan (partB s a c) l t ∧ StoreIs w' p b (openS s a c (frames l).length).1 ∧
      (((openS s a c (frames l).length).2 ≠ 0 ∧ e = .returned (.tuple #[.pointer none, .slice none 0 0, .int .i64 (openS s a c (frames l).length).2])) ∨
        ((openS s a c (frames l).length).2 = 0 ∧ ∃ (j : Nat) (rb : Option Nat) (v : Value), w.heap.size ≤ j ∧ (∀ g, rb = some g → w.heap.size ≤ g) ∧ e = .returned (.tuple #[.pointer (some ⟨j, 0, none⟩), v, .int .i64 0]) ∧
          JnIs w' j rb p a c l (frames l).length false ∧ w'.ownsRow w.heap.size 9 1 v l.length (l.map strV) ∧ ∀ g, v.ownBlock = some g → rb ≠ some g))))
set_option maxHeartbeats 4000000 in
set_option maxRecDepth 100000 in
theorem part_yes {w : World} {p b : Nat} {s : St} (h : StoreIs w p b s) (a c : Nat) (hh : s.Has a c) :
    Calls Tryz.prog 34 #[.pointer (some ⟨p, 0, none⟩), .int .i64 (a : Int), .int .i64 (c : Int)] w (PartPost s p b a c w) := by
  have hn := h.wf.hi
  have hl := h.lt
  have hwf := h.wf
  have h1 := h.alloc (.cells #[.pointer (some ⟨p, 0, none⟩), .int .i64 (a : Int), .int .i64 (c : Int)] 101)
  have his := is_of h1 (a : Int) (c : Int)
  rw [isB_has hh] at his
  have HIS := Lib.hid his
  have HS := Lib.hid h1
  have hpl := partB_length h.wf hh
  have hh2 := hh.2
  have HH := Lib.hid hh
  have HWF := Lib.hid hwf
  clear his h h1 hh hwf
  go_enter Tryz.func34, Tryz.ntmps34
  go_wp2_with fail
  refine (HIS.out).mono ?_
  rintro e w1 ⟨rfl, hb⟩
  have hx := fun i => blk_cells hb (g := w.heap.size) (by simp) i
  have x0 : w1.cell? ⟨w.heap.size, 0, none⟩ = some (.pointer (some ⟨p, 0, none⟩)) := (hx 0).trans (blk_cell (blk_new w _) 0)
  have x1 : w1.cell? ⟨w.heap.size, 1, none⟩ = some (.int .i64 (a : Int)) := (hx 1).trans (blk_cell (blk_new w _) 1)
  have x2 : w1.cell? ⟨w.heap.size, 2, none⟩ = some (.int .i64 (c : Int)) := (hx 2).trans (blk_cell (blk_new w _) 2)
  have HS1 := Lib.hid (HS.out.below hb)
  have HB1 := Lib.hid (((Below.refl w.heap.size w).alloc (Nat.le_refl _) _).trans (hb.mono (by simp)))
  have hlt1 : w.heap.size < w1.heap.size := by have := hb.size; simp at this; omega
  clear hb hx
  go_wp2_with fail
  refine (pbytes_of HS1.out a c HH.out).mono ?_
  rintro e w2 ⟨rfl, hb⟩
  have x0 := (blk_cells hb hlt1 0).trans x0
  have x1 := (blk_cells hb hlt1 1).trans x1
  have x2 := (blk_cells hb hlt1 2).trans x2
  have HS2 := Lib.hid (HS1.out.below hb)
  have HB2 := Lib.hid (HB1.out.trans (hb.mono HB1.out.size))
  have hlt2 : w.heap.size < w2.heap.size := Nat.lt_of_lt_of_le hlt1 hb.size
  clear hb
  go_wp2_with fail
  refine (Scan_of (mkS (partB s a c)) (by rw [size_mkS, hpl]; omega) _).mono ?_
  rintro e w3 ⟨v, l, t, rfl, hsc, hown, hb⟩
  rw [list_mkS] at hsc
  have x0 := (blk_cells hb hlt2 0).trans x0
  have x1 := (blk_cells hb hlt2 1).trans x1
  have x2 := (blk_cells hb hlt2 2).trans x2
  obtain ⟨ao, n1, cap, rfl⟩ := own_slice hown
  have HSC := Lib.hid hsc
  have hfl : (frames l).length ≤ 32 * c := by
    have := congrArg List.length hsc.eq
    rw [List.length_append] at this
    omega
  have HO := Lib.hid (own_mono hown HB2.out.size)
  have HS3 := Lib.hid (HS2.out.below hb)
  have HB3 := Lib.hid (HB2.out.trans (hb.mono HB2.out.size))
  have hlt3 : w.heap.size < w3.heap.size := Nat.lt_of_lt_of_le hlt2 hb.size
  clear hsc hown hb HS HS1 HS2 HB1 HB2 HIS
  obtain ⟨M, hM⟩ : ∃ M, M = mkS (partB s a c) := ⟨_, rfl⟩
  rw [← hM]
  have hMs : (M.size : Int) = ((32 * c : Nat) : Int) := by rw [hM, size_mkS, hpl]
  have hMl : M.data.toList = partB s a c := by rw [hM, list_mkS]
  have HCL : Hid (∀ W, Calls Tryz.prog 59 #[.string M, .int .i64 ((frames l).length : Int)] W fun e w' => e = .returned (.string (mkS (openAll (partB s a c) (frames l).length))) ∧ Below W.heap.size W w') := fun W => by
    have := cleared_of M (frames l).length (by omega) (by omega) W
    rwa [hMl] at this
  have HPU : Hid (∀ W, StoreIs W p b s → Calls Tryz.prog 58 #[.agg #[.pointer (some ⟨p, 0, none⟩), .int .i64 (a : Int), .int .i64 (c : Int)], .string (mkS (openAll (partB s a c) (frames l).length)), .int .i64 ((frames l).length : Int), .int .i64 (M.size : Int), .bool false] W fun e w' =>
      e = .returned (.int .i64 (openS s a c (frames l).length).2) ∧ StoreIs w' p b (openS s a c (frames l).length).1 ∧ Only [p, b] W w') := fun W hW => by
    have h2 := put_of hW a c HH.out (mkS (openAll (partB s a c) (frames l).length)) (by rw [size_mkS, openAll_length _ _ (by omega), hpl]) (frames l).length (32 * c) (by omega) (Nat.le_refl _) false
    rw [list_mkS, show (32 * c + 31) / 32 = c by omega] at h2
    rw [hMs]
    exact h2
  generalize hq : openS s a c (frames l).length = q at *
  have HQ := Lib.hid hq
  clear hq
  generalize mkS (openAll (partB s a c) (frames l).length) = Z at *
  generalize hF : (frames l).length = F at *
  have HF := Lib.hid hF
  clear hMl hM hpl hMs hF
  go_wp2_with fail
  go_region_held3 (fun w' => w'.cell? ⟨w.heap.size, 0, none⟩ = some (.pointer (some ⟨p, 0, none⟩)) ∧ w'.cell? ⟨w.heap.size, 1, none⟩ = some (.int .i64 (a : Int)) ∧ w'.cell? ⟨w.heap.size, 2, none⟩ = some (.int .i64 (c : Int)))
    (go_keep)
    (first
      | (go_at_call 59; refine (HCL.out _).mono ?_; rintro e w4 ⟨rfl, hb⟩; have HS4 := Lib.hid (HS3.out.drew.below hb); have HB4 := Lib.hid (HB3.out.drew.trans (hb.mono HB3.out.size)); have HO4 := Lib.hid (pw_own_below (w := w3.drew) HO.out hb); have x0 := (blk_cells hb hlt3 0).trans x0; have x1 := (blk_cells hb hlt3 1).trans x1; have x2 := (blk_cells hb hlt3 2).trans x2; have hlt4 : w.heap.size < w4.heap.size := Nat.lt_of_lt_of_le hlt3 hb.size)
      | (go_at_call 58; refine (HPU.out _ HS4.out).mono ?_; rintro e w5 ⟨rfl, hst, ho⟩; have HS5 := Lib.hid hst; have HB5 := Lib.hid ((Only.of_below (S := [p, b]) HB4.out).tr ho); have HO5 := Lib.hid (own_of_only HO4.out ho (store_types HS4.out)); have y0 : w5.cell? ⟨w.heap.size, 0, none⟩ = some (.pointer (some ⟨p, 0, none⟩)) := (World.cell?_of_block (ho.block w.heap.size hlt4 (by simp; omega))).trans x0; have y1 : w5.cell? ⟨w.heap.size, 1, none⟩ = some (.int .i64 (a : Int)) := (World.cell?_of_block (ho.block w.heap.size hlt4 (by simp; omega))).trans x1; have y2 : w5.cell? ⟨w.heap.size, 2, none⟩ = some (.int .i64 (c : Int)) := (World.cell?_of_block (ho.block w.heap.size hlt4 (by simp; omega))).trans x2))
  have hlt5 : w.heap.size < w5.heap.size := Nat.lt_of_lt_of_le hlt4 ho.size
  have HC5 : Hid (∀ W, Only [] w5 W → Calls Tryz.prog 44 #[.slice ao n1 cap] W fun e w' => ∃ v', e = .returned v' ∧ w'.ownsRow w5.heap.size 9 1 v' l.length (l.map strV) ∧ Below W.heap.size W w' ∧ Only [] w5 w' ∧
      w'.cell? ⟨w.heap.size, 0, none⟩ = some (.pointer (some ⟨p, 0, none⟩)) ∧ w'.cell? ⟨w.heap.size, 1, none⟩ = some (.int .i64 (a : Int)) ∧ w'.cell? ⟨w.heap.size, 2, none⟩ = some (.int .i64 (c : Int))) := fun W hW => by
    refine (clone_of (own_of_only HO5.out hW (by simp)) (by have := frames_count l; rw [HF.out] at this; omega)).mono ?_
    rintro e w' ⟨v', rfl, hown, hbel⟩
    have hO : Only [] w5 w' := hW.tr (Only.of_below hbel)
    exact ⟨v', rfl, own_mono hown hW.size, hbel, hO, (World.cell?_of_block (hO.block _ hlt5 (by simp))).trans y0, (World.cell?_of_block (hO.block _ hlt5 (by simp))).trans y1, (World.cell?_of_block (hO.block _ hlt5 (by simp))).trans y2⟩
  have hlt5' := hlt5
  by_cases hq2 : q.2 = 0
  · have hne : (q.2 != 0) = false := by rw [hq2]; rfl
    have HQ2 := Lib.hid hq2
    clear hq2 hb x0 x1 x2
    go_wp2_with fail
    go_region_held3 (fun w' => w'.cell? ⟨w.heap.size, 0, none⟩ = some (.pointer (some ⟨p, 0, none⟩)) ∧ w'.cell? ⟨w.heap.size, 1, none⟩ = some (.int .i64 (a : Int)) ∧ w'.cell? ⟨w.heap.size, 2, none⟩ = some (.int .i64 (c : Int)))
      (go_keep)
      (first | (go_at_call 44; refine (HC5.out _ (by first | exact (Only.refl [] w5).drew | exact ((Only.refl [] w5).alloc _).drew | exact (Only.refl [] w5).drew.alloc _)).mono ?_; rintro e w6 ⟨v', rfl, hown', hb6, ho6, z0, z1, z2⟩; have HO6 := Lib.hid hown'; have HB6 := Lib.hid hb6; have HQ6 := Lib.hid ho6; clear hown' hb6 ho6))
    all_goals go_wp2_with fail
    · go_ret3
      exact ⟨HB5.out.tr (HQ6.out.mono (by simp)), Or.inr ⟨a, c, l, t, rfl, rfl, HH.out, HSC.out, by rw [HF.out, HQ.out]; exact HS5.out.only HQ6.out (by simp) (by simp), Or.inr ⟨by rw [HF.out, HQ.out]; exact HQ2.out, w5.heap.size, _, v', Nat.le_of_lt hlt5', fun g hg => (HO5.out.lt g hg).1, rfl,
        ⟨_, by rw [HF.out]; exact blk_below (blk_new w5.drew _) HB6.out, own_mono (own_of_only HO5.out HQ6.out (by simp)) (Nat.zero_le _), rfl⟩, own_mono HO6.out (Nat.le_of_lt hlt5'), fun g hg he => by have h1 := (HO6.out.lt g hg).1; have h2 := (HO5.out.lt g he).2; omega⟩⟩⟩
    · go_ret3
      have hO6 := HQ6.out.alloc (.cells #[.pointer (some ⟨p, 0, none⟩), .int .i64 (a : Int), .int .i64 (c : Int), .slice ao n1 cap, .int .i64 (F : Int), .bool false] 107)
      exact ⟨HB5.out.tr (hO6.mono (by simp)), Or.inr ⟨a, c, l, t, rfl, rfl, HH.out, HSC.out, by rw [HF.out, HQ.out]; exact HS5.out.only hO6 (by simp) (by simp), Or.inr ⟨by rw [HF.out, HQ.out]; exact HQ2.out, w6.heap.size, _, v', by have := HQ6.out.size; omega, fun g hg => (HO5.out.lt g hg).1, rfl,
        ⟨_, by rw [HF.out]; exact blk_new w6 _, own_mono (own_of_only HO5.out hO6 (by simp)) (Nat.zero_le _), rfl⟩, own_mono (HO6.out.alloc _) (Nat.le_of_lt hlt5'), fun g hg he => by have h1 := (HO6.out.lt g hg).1; have h2 := (HO5.out.lt g he).2; omega⟩⟩⟩
  · have hne : (q.2 != 0) = true := by rw [bne_iff_ne]; exact hq2
    have HQ2 := Lib.hid hq2
    clear hq2 hb x0 x1 x2
    go_wp2_with fail
    go_ret3
    exact ⟨HB5.out, Or.inr ⟨a, c, l, t, rfl, rfl, HH.out, HSC.out, by rw [HF.out, HQ.out]; exact HS5.out, Or.inl ⟨by rw [HF.out, HQ.out]; exact HQ2.out, by rw [HF.out, HQ.out]; rfl⟩⟩⟩
theorem jnF {w : World} {j p : Nat} {pf nb : Int} {v : Value} {fin : Int} {o : Bool} (h : w.heap[j]? = some (.cells (jnC p pf nb v fin o) 107 (0, 0))) :
    w.cell? ⟨j, 0, none⟩ = some (.pointer (some ⟨p, 0, none⟩)) ∧ w.cell? ⟨j, 1, none⟩ = some (.int .i64 pf) ∧ w.cell? ⟨j, 2, none⟩ = some (.int .i64 nb) ∧ w.cell? ⟨j, 3, none⟩ = some v ∧ w.cell? ⟨j, 4, none⟩ = some (.int .i64 fin) ∧ w.cell? ⟨j, 5, none⟩ = some (.bool o) ∧
    w.frozen? ⟨j, 0, none⟩ = false ∧ w.frozen? ⟨j, 1, none⟩ = false ∧ w.frozen? ⟨j, 2, none⟩ = false ∧ w.frozen? ⟨j, 3, none⟩ = false ∧ w.frozen? ⟨j, 4, none⟩ = false ∧ w.frozen? ⟨j, 5, none⟩ = false :=
  ⟨blk_cell h 0, blk_cell h 1, blk_cell h 2, blk_cell h 3, blk_cell h 4, blk_cell h 5, blk_frozen h 0, blk_frozen h 1, blk_frozen h 2, blk_frozen h 3, blk_frozen h 4, blk_frozen h 5⟩
set_option maxHeartbeats 2000000 in
theorem room_of {w : World} {j p pf nb : Nat} {rb : Option Nat} {l : List Bs} {fin : Nat} {o : Bool} (h : JnIs w j rb p pf nb l fin o) (hn : nb ≤ 256) (hf : fin ≤ 32 * nb) :
    Calls Tryz.prog 51 #[.pointer (some ⟨j, 0, none⟩)] w fun e w' => e = .returned (.int .i64 (32 * (nb : Int) - (fin : Int))) ∧ ∃ k, w' = w.drewN k := by
  obtain ⟨v, hj, hown, hrb⟩ := h.ex
  obtain ⟨c0, c1, c2, c3, c4, c5, f0, f1, f2, f3, f4, f5⟩ := jnF hj
  have s1 : IntKind.i64.wrap ((nb : Int) * 32) = (nb : Int) * 32 := IntWalk.i64_in _ (by omega)
  have s2 : IntKind.i64.wrap ((nb : Int) * 32 - (fin : Int)) = (nb : Int) * 32 - (fin : Int) := IntWalk.i64_in _ (by omega)
  clear hj hown h hrb
  go_enter Tryz.func51, Tryz.ntmps51
  go_wp2
  go_quiet (fail)
  go_wp2
  go_ret
  exact ⟨by rw [show (32 * (nb : Int) - (fin : Int)) = (nb : Int) * 32 - (fin : Int) by omega]; rfl, _, rfl⟩
end Go.Proofs.YtngcdkbnljoodaaGreatDoor

namespace Go.Proofs.YtngcdkbnljoodaaGreatDoor
set_option linter.unusedVariables false
set_option linter.unusedSimpArgs false
open Go.RowKit Go.Proofs.YtngcdkbnljoodaaGreatDoorW.PrintWords

set_option maxHeartbeats 2000000 in
set_option maxRecDepth 100000 in
theorem append_bad {w : World} {j : Nat} (s : ByteArray) (h : s.size = 0 ∨ 400 < s.size) :
    Calls Tryz.prog 39 #[.pointer (some ⟨j, 0, none⟩), .string s] w fun e w' => e = .returned (.int .i64 3) ∧ w = w' := by
  have HF := Lib.hid (Frame_no s h w)
  clear h
  go_enter Tryz.func39, Tryz.ntmps39
  go_wp2_with fail
  refine (HF.out).mono ?_
  rintro e w' ⟨rfl, rfl⟩
  go_wp2_with fail
  go_ret
  exact ⟨rfl, rfl⟩
theorem JnIs.drewN {w : World} {j p pf nb : Nat} {rb : Option Nat} {l : List Bs} {fin : Nat} {o : Bool} (h : JnIs w j rb p pf nb l fin o) (k : Nat) : JnIs (w.drewN k) j rb p pf nb l fin o :=
  h.only (S := []) ⟨rfl, rfl, rfl, Nat.le_refl _, fun _ _ _ => rfl⟩ (by simp) (by simp)
set_option maxHeartbeats 2000000 in
set_option maxRecDepth 100000 in
theorem append_not {w : World} {j p pf nb : Nat} {rb : Option Nat} {l : List Bs} {fin : Nat} {o : Bool} (h : JnIs w j rb p pf nb l fin o) (hn : nb ≤ 256) (hf : fin ≤ 32 * nb) (s : ByteArray) (h1 : 1 ≤ s.size) (h2 : s.size ≤ 400)
    (hbad : 32 * nb - fin < s.size + 8 ∨ o = true) :
    Calls Tryz.prog 39 #[.pointer (some ⟨j, 0, none⟩), .string s] w fun e w' => e = .returned (.int .i64 (if 32 * nb - fin < s.size + 8 then 14 else 16)) ∧ Below w.heap.size w w' := by
  have HFR := Lib.hid (Frame_ok s h1 h2 w)
  have hfs : (mkS (frameL s.data.toList)).size = s.size + 8 := by rw [size_mkS, frameL_length]; rfl
  have HJ := Lib.hid h
  generalize mkS (frameL s.data.toList) = FR at *
  obtain ⟨R, hR⟩ : ∃ R : Int, R = 32 * (nb : Int) - (fin : Int) := ⟨_, rfl⟩
  obtain ⟨L, hL⟩ : ∃ L : Nat, L = s.size + 8 := ⟨_, rfl⟩
  rw [← hL] at hfs hbad ⊢
  by_cases hg : 32 * nb - fin < L
  · rw [if_pos hg]
    have hgt : R < (L : Int) := by omega
    have HR := Lib.hid hR
    clear h hR hL hg hbad
    go_enter Tryz.func39, Tryz.ntmps39
    go_wp2_with fail
    refine (HFR.out).mono ?_
    rintro e w1 ⟨rfl, hb⟩
    have hj1 : JnIs w1 j rb p pf nb l fin o := HJ.out.only (S := []) (Only.of_below hb) (by simp) (by simp)
    have HRM := Lib.hid (room_of hj1 hn hf)
    clear hj1
    go_wp2_with fail
    refine (HRM.out).mono ?_
    rintro e w2 ⟨rfl, k, rfl⟩
    rw [← HR.out]
    go_wp2_with fail
    go_ret
    exact ⟨rfl, ⟨hb.os, hb.tape, hb.output, hb.size, hb.block⟩⟩
  · rw [if_neg hg]
    have ho : o = true := hbad.resolve_left hg
    subst ho
    have hgt : ¬ (R < (L : Int)) := by omega
    have hgt2 : (R < (L : Int)) = False := eq_false hgt
    have hgt3 : (L : Int) ≤ R := by omega
    have HR := Lib.hid hR
    clear h hR hL hg hbad hgt
    go_enter Tryz.func39, Tryz.ntmps39
    go_wp2_with fail
    refine (HFR.out).mono ?_
    rintro e w1 ⟨rfl, hb⟩
    have hj1 : JnIs w1 j rb p pf nb l fin true := HJ.out.only (S := []) (Only.of_below hb) (by simp) (by simp)
    have HRM := Lib.hid (room_of hj1 hn hf)
    obtain ⟨v, hv, _, _⟩ := hj1.ex
    have c5 : w1.cell? ⟨j, 5, none⟩ = some (.bool true) := blk_cell hv 5
    clear hj1 hv
    go_wp2_with fail
    refine (HRM.out).mono ?_
    rintro e w2 ⟨rfl, k, rfl⟩
    rw [← HR.out]
    go_wp2_with fail
    go_ret
    exact ⟨rfl, ⟨hb.os, hb.tape, hb.output, hb.size, hb.block⟩⟩
/-- What an append that has room does. -/
def AppPost (st : St) (j : Nat) (rb : Option Nat) (p b pf nb : Nat) (l : List Bs) (fin : Nat) (r : Bs) (w : World) (e : Ending) (w' : World) : Prop :=
  Only ([p, b] ++ (j :: rb.toList)) w w' ∧ StoreIs w' p b (appendS st pf nb fin (frameL r)).1 ∧ e = .returned (.int .i64 (appendS st pf nb fin (frameL r)).2) ∧
    (((appendS st pf nb fin (frameL r)).2 ≠ 0 ∧ JnIs w' j rb p pf nb l fin true) ∨
      ((appendS st pf nb fin (frameL r)).2 = 0 ∧ ∃ rb', (∀ g, rb' = some g → rb = some g ∨ w.heap.size ≤ g) ∧ JnIs w' j rb' p pf nb (l ++ [r]) (fin + (r.length + 8)) false))
theorem app_string (M : Bs) (fin : Nat) (f : Bs) (hf : fin + f.length ≤ M.length) : openAll (M.take fin ++ f ++ M.drop (fin + f.length)) (fin + f.length) = appAll M fin f := by
  unfold openAll appAll
  have h1 : (M.take fin ++ f).length = fin + f.length := by rw [List.length_append, List.length_take]; omega
  rw [List.take_left' h1, List.length_append, h1, List.length_drop]
  congr 2
  omega
set_option maxHeartbeats 4000000 in
set_option maxRecDepth 100000 in
theorem append_go {w : World} {j p b pf nb : Nat} {rb : Option Nat} {l : List Bs} {fin : Nat} {st : St} (hs : StoreIs w p b st) (h : JnIs w j rb p pf nb l fin false) (hh : st.Has pf nb) (s : ByteArray) (h1 : 1 ≤ s.size) (h2 : s.size ≤ 400)
    (hroom : fin + (s.size + 8) ≤ 32 * nb) (hlen : l.length ≤ 100000) :
    Calls Tryz.prog 39 #[.pointer (some ⟨j, 0, none⟩), .string s] w (AppPost st j rb p b pf nb l fin s.data.toList w) := by
  have HFR := Lib.hid (Frame_ok s h1 h2 w)
  have hsl : s.data.toList.length = s.size := rfl
  have hfl := frameL_length s.data.toList
  have hn : nb ≤ 256 := by have := hs.wf.hi; have := hh.2; omega
  have hpl := partB_length hs.wf hh
  have HJ := Lib.hid h
  have HS := Lib.hid hs
  have HH := Lib.hid hh
  obtain ⟨M, hM⟩ : ∃ M, M = mkS (partB st pf nb) := ⟨_, rfl⟩
  have hMs : M.size = 32 * nb := by rw [hM, size_mkS, hpl]
  have hMl : M.data.toList = partB st pf nb := by rw [hM, list_mkS]
  obtain ⟨FR, hFR⟩ : ∃ FR, FR = mkS (frameL s.data.toList) := ⟨_, rfl⟩
  obtain ⟨L, hL⟩ : ∃ L : Nat, L = s.size + 8 := ⟨_, rfl⟩
  obtain ⟨T, hT⟩ : ∃ T : Nat, T = fin + L := ⟨_, rfl⟩
  have hfs : FR.size = L := by rw [hFR, size_mkS, hfl, hL]; rfl
  obtain ⟨X1, hX1⟩ : ∃ X1, X1 = mkS ((partB st pf nb).take fin) := ⟨_, rfl⟩
  obtain ⟨X2, hX2⟩ : ∃ X2, X2 = mkS ((partB st pf nb).drop T) := ⟨_, rfl⟩
  obtain ⟨Y, hY⟩ : ∃ Y, Y = mkS ((partB st pf nb).take fin ++ frameL s.data.toList) := ⟨_, rfl⟩
  obtain ⟨M2, hM2⟩ : ∃ M2, M2 = mkS ((partB st pf nb).take fin ++ frameL s.data.toList ++ (partB st pf nb).drop T) := ⟨_, rfl⟩
  have eX1 : M.extract 0 fin = X1 := by rw [mkS_extract, hMl, hX1]; rfl
  have eX2 : M.extract T M.size = X2 := by rw [mkS_extract, hMl, hX2, List.take_of_length_le (by rw [List.length_drop, hpl]; omega)]
  have eY : X1 ++ FR = Y := by rw [hX1, hFR, hY, mkS_append]
  have eM2 : Y ++ X2 = M2 := by rw [hY, hX2, hM2, mkS_append]
  have z1 : X1.size ≤ 100000 := by rw [hX1, size_mkS, List.length_take]; omega
  have z2 : X2.size ≤ 100000 := by rw [hX2, size_mkS, List.length_drop]; omega
  have z3 : Y.size ≤ 100000 := by rw [hY, size_mkS, List.length_append, List.length_take, hfl]; omega
  have zM2 : M2.size = 32 * nb := by rw [hM2, size_mkS, List.length_append, List.length_append, List.length_take, List.length_drop, hfl, hpl]; omega
  have z4 : L ≤ 500 := by omega
  have r1 : ∀ W : World, (Op.stringOp .add X1 FR).run Tryz.prog W = .ok (.string Y) W := fun W => by rw [run_string_add_sum W X1 FR (by omega), eY]
  have r2 : ∀ W : World, (Op.stringOp .add Y X2).run Tryz.prog W = .ok (.string M2) W := fun W => by rw [run_string_add_sum W Y X2 (by omega), eM2]
  have r3 : (9223372036854775807 < X1.size + L) = False := eq_false (by omega)
  have r3' : (9223372036854775807 < X1.size + FR.size) = False := eq_false (by omega)
  have r4 : (9223372036854775807 < Y.size + X2.size) = False := eq_false (by omega)
  have hMl2 : M2.data.toList = (partB st pf nb).take fin ++ frameL s.data.toList ++ (partB st pf nb).drop (fin + (frameL s.data.toList).length) := by rw [hM2, list_mkS, hT, hfl, hL]; rfl
  have hAll := app_string (partB st pf nb) fin (frameL s.data.toList) (by omega)
  have hall := appAll_length (partB st pf nb) fin (frameL s.data.toList) (by omega)
  obtain ⟨Z, hZ⟩ : ∃ Z, Z = mkS (appAll (partB st pf nb) fin (frameL s.data.toList)) := ⟨_, rfl⟩
  have HCL : Hid (∀ W, Calls Tryz.prog 59 #[.string M2, .int .i64 (T : Int)] W fun e w' => e = .returned (.string Z) ∧ Below W.heap.size W w') := fun W => by
    have h3 := cleared_of M2 T (by omega) (by omega) W
    rw [hMl2, show T = fin + (frameL s.data.toList).length by omega, hAll, ← hZ] at h3
    rw [show T = fin + (frameL s.data.toList).length by omega]
    exact h3
  have HPU : Hid (∀ W, StoreIs W p b st → Calls Tryz.prog 58 #[.agg #[.pointer (some ⟨p, 0, none⟩), .int .i64 (pf : Int), .int .i64 (nb : Int)], .string Z, .int .i64 (fin : Int), .int .i64 (T : Int), .bool true] W fun e w' =>
      e = .returned (.int .i64 (appendS st pf nb fin (frameL s.data.toList)).2) ∧ StoreIs w' p b (appendS st pf nb fin (frameL s.data.toList)).1 ∧ Only [p, b] W w') := fun W hW => by
    have h2 := put_of hW pf nb hh Z (by rw [hZ, size_mkS, hall, hpl]) fin T (by omega) (by omega) true
    rw [hZ, list_mkS, show T = fin + (frameL s.data.toList).length by omega] at h2
    rw [hZ, show T = fin + (frameL s.data.toList).length by omega]
    exact h2
  have HPB : Hid (∀ W, StoreIs W p b st → Calls Tryz.prog 56 #[.agg #[.pointer (some ⟨p, 0, none⟩), .int .i64 (pf : Int), .int .i64 (nb : Int)]] W fun e w' => e = .returned (.string M) ∧ Below W.heap.size W w') := fun W hW => by
    rw [hM]
    exact pbytes_of hW pf nb hh
  generalize hq : appendS st pf nb fin (frameL s.data.toList) = q at *
  have HQ := Lib.hid hq
  rw [← hFR] at HFR
  obtain ⟨R, hR⟩ : ∃ R : Int, R = 32 * (nb : Int) - (fin : Int) := ⟨_, rfl⟩
  have hgt3 : (L : Int) ≤ R := by omega
  have hgt2 : (R < (L : Int)) = False := eq_false (by omega)
  have hTi : (fin : Int) + (L : Int) = (T : Int) := by omega
  have hTM : (T : Int) ≤ (M.size : Int) := by omega
  have hfM : (fin : Int) ≤ (M.size : Int) := by omega
  have hTn : T ≤ 8192 := by omega
  have hf0 : (0 : Int) ≤ (fin : Int) := by omega
  have hT0 : (0 : Int) ≤ (T : Int) := by omega
  have HR := Lib.hid hR
  have HL := Lib.hid hL
  have HT := Lib.hid hT
  have sT : IntKind.i64.wrap ((fin : Int) + (L : Int)) = (T : Int) := by rw [IntWalk.i64_in _ (by omega)]; omega
  clear hq hM hMs hMl hFR hX1 hX2 hY hM2 zM2 hMl2 hAll hall hZ hR hL hT hpl hfl h hs hh hsl
  go_enter Tryz.func39, Tryz.ntmps39
  go_wp2_with fail
  refine (HFR.out).mono ?_
  rintro e w1 ⟨rfl, hb⟩
  have hj1 : JnIs w1 j rb p pf nb l fin false := HJ.out.only (S := []) (Only.of_below hb) (by simp) (by simp)
  have HRM := Lib.hid (room_of hj1 hn (by omega))
  have HS1 := Lib.hid (HS.out.below hb)
  have HB1 := Lib.hid hb
  obtain ⟨v, hv, hown, hrb⟩ := hj1.ex
  have HO1 := Lib.hid hown
  have HRB := Lib.hid hrb
  have HJ1 := Lib.hid hv
  obtain ⟨c0, c1, c2, c3, c4, c5, f0, f1, f2, f3, f4, f5⟩ := jnF hv
  have hjl := blk_lt hv
  clear hj1 hv hown hrb hb
  go_wp2_with fail
  refine (HRM.out).mono ?_
  rintro e w2 ⟨rfl, k, rfl⟩
  rw [← HR.out]
  go_wp2_with fail
  refine (HPB.out (w1.drewN k) (HS1.out.only (S := []) ⟨rfl, rfl, rfl, Nat.le_refl _, fun _ _ _ => rfl⟩ (by simp) (by simp))).mono ?_
  rintro e w3 ⟨rfl, hb⟩
  have hO3 : Only [] w w3 := ((Only.of_below HB1.out).tr (b := w1) (c := w1.drewN k) ⟨rfl, rfl, rfl, Nat.le_refl _, fun _ _ _ => rfl⟩).tr (Only.of_below hb)
  have HS3 := Lib.hid (HS.out.only hO3 (by simp) (by simp))
  have HO3 := Lib.hid hO3
  obtain ⟨v3, hv3, hown3, hrb3⟩ := (HJ.out.only hO3 (by simp) (by simp)).ex
  have hjp : j ≠ p := by obtain ⟨_, _, ⟨wr, h1⟩, h2⟩ := HS3.out; exact blk_ne hv3 h1 (by decide)
  have hjb : j ≠ b := by obtain ⟨_, _, ⟨wr, h1⟩, h2⟩ := HS3.out; exact blk_ne hv3 h2 (by decide)
  obtain ⟨d0, d1, d2, d3, d4, d5, g0, g1, g2, g3, g4, g5⟩ := jnF hv3
  have HJ3 := Lib.hid hv3
  have HOW3 := Lib.hid hown3
  have HRB3 := Lib.hid hrb3
  have hlt3 := blk_lt hv3
  clear hb hO3 hv3 hown3 hrb3 c0 c1 c2 c3 c4 c5 f0 f1 f2 f3 f4 f5 HS1 HRM HO1 HRB HJ1
  go_wp2_with fail
  go_region_held3 (fun w' => w'.cell? ⟨j, 0, none⟩ = some (.pointer (some ⟨p, 0, none⟩)) ∧ w'.cell? ⟨j, 1, none⟩ = some (.int .i64 (pf : Int)) ∧ w'.cell? ⟨j, 2, none⟩ = some (.int .i64 (nb : Int)) ∧ w'.cell? ⟨j, 4, none⟩ = some (.int .i64 (fin : Int)))
    (go_keep)
    (first
      | (go_at_call 59; refine (HCL.out _).mono ?_; rintro e w4 ⟨rfl, hb⟩; have HO4 := Lib.hid ((HO3.out.drew).tr (Only.of_below hb)); have hO34 : Only [] w3 w4 := ((Only.refl [] w3).drew).tr (Only.of_below hb); have HS4 := Lib.hid (HS3.out.only hO34 (by simp) (by simp)); have e0 : w4.cell? ⟨j, 0, none⟩ = some (.pointer (some ⟨p, 0, none⟩)) := blk_cell (hO34.blk HJ3.out (by simp)) 0; have e1 : w4.cell? ⟨j, 1, none⟩ = some (.int .i64 (pf : Int)) := blk_cell (hO34.blk HJ3.out (by simp)) 1; have e2 : w4.cell? ⟨j, 2, none⟩ = some (.int .i64 (nb : Int)) := blk_cell (hO34.blk HJ3.out (by simp)) 2; have e4 : w4.cell? ⟨j, 4, none⟩ = some (.int .i64 (fin : Int)) := blk_cell (hO34.blk HJ3.out (by simp)) 4; have HO34 := Lib.hid hO34; clear hb hO34)
      | (go_at_call 58; refine (HPU.out _ HS4.out).mono ?_; rintro e w5 ⟨rfl, hst, ho⟩; have HS5 := Lib.hid hst; have HO5 := Lib.hid ((HO4.out.mono (T := [p, b]) (by simp)).tr ho); have HO35 := Lib.hid ((HO34.out.mono (T := [p, b]) (by simp)).tr ho); have e0 : w5.cell? ⟨j, 0, none⟩ = some (.pointer (some ⟨p, 0, none⟩)) := blk_cell (HO35.out.blk HJ3.out (by simp; omega)) 0; have e1 : w5.cell? ⟨j, 1, none⟩ = some (.int .i64 (pf : Int)) := blk_cell (HO35.out.blk HJ3.out (by simp; omega)) 1; have e2 : w5.cell? ⟨j, 2, none⟩ = some (.int .i64 (nb : Int)) := blk_cell (HO35.out.blk HJ3.out (by simp; omega)) 2; have e4 : w5.cell? ⟨j, 4, none⟩ = some (.int .i64 (fin : Int)) := blk_cell (HO35.out.blk HJ3.out (by simp; omega)) 4; clear hst ho))
  have hv5 := HO35.out.blk HJ3.out (by simp; omega)
  have hown5 := own_of_only (HOW3.out) HO35.out (store_types HS3.out)
  clear e0 e1 e2 e4 d0 d1 d2 d3 d4 d5 g0 g1 g2 g3 g4 g5
  obtain ⟨e0, e1, e2, e3, e4, e5, f0, f1, f2, f3, f4, f5⟩ := jnF hv5
  have HJ5 := Lib.hid hv5
  have HW5 := Lib.hid hown5
  have hRg : ∀ g, v3.ownBlock = some g → rb = some g := fun g hg => by rw [← HRB3.out]; exact hg
  have HRG := Lib.hid hRg
  clear hv5 hown5 hRg
  by_cases hq2 : q.2 = 0
  · have hne : (q.2 != 0) = false := by rw [hq2]; rfl
    have HQ2 := Lib.hid hq2
    obtain ⟨i0, hi, hz0, hz1, hz2⟩ := info_parts string_info
    obtain ⟨ao, n1, cap, rfl⟩ := own_slice HW5.out
    clear hq2
    go_wp2_with (at_builtin; refine wpList_append_own_at _ rfl _ _ 37 rfl 0 9 i0 (.string ByteArray.empty) 1 16 Tryz.underlying37 hi hz0 hz1 hz2 rfl (by decide) _ _ _ rfl (HW5.out.alloc _) ⟨w5.heap.size, 0, none⟩ 1 1 [.string s] rfl rfl ?c1 ?c2 ?c3 ?c4 ?c5 ?_)
    case c1 =>
      intro m u hm
      match m, hm with
      | 0, hm => simp at hm; subst hm; simp [Addr.add]
    case c2 => intro u hu; simp at hu; subst hu; rfl
    case c3 => unfold maxLen; omega
    case c4 => omega
    case c5 => exact Nat.zero_le _
    intro v' w6 hown6 hgrow _ hat
    obtain ⟨ao', n', cap', rfl⟩ := own_slice hown6
    have hjg : ∀ g, (Value.slice ao n1 cap).ownBlock = some g → g ≠ j := fun g hg e => by
      obtain ⟨cells, hc⟩ := own_typed HW5.out g hg
      rw [e, HJ5.out] at hc
      cases hc
    have hlt5 := blk_lt HJ5.out
    have hv6 : w6.heap[j]? = _ := (hgrow.block j (by simp; omega) (fun e => hjg j e.symm rfl)).trans (blk_alloc HJ5.out _)
    have hO6 : Only ([p, b] ++ (j :: rb.toList)) w5 w6 := ((Only.refl _ w5).alloc _).grown hgrow (fun g hg => Or.inl (by have := HRG.out g hg; rw [this]; simp))
    have hS6 : StoreIs w6 p b q.1 := by
      obtain ⟨z1, z2, ⟨wr, z3⟩, z4⟩ := HS5.out
      have hpg : ∀ {g : Nat} {cs : Array Value} {t : TypeId}, w5.heap[g]? = some (.cells cs t (0, 0)) → t ≠ 9 → w6.heap[g]? = some (.cells cs t (0, 0)) := fun {g cs t} hg ht =>
        (hgrow.block g (by have := blk_lt hg; simp; omega) (fun e => by
          obtain ⟨cells, hc⟩ := own_typed HW5.out g e.symm
          rw [hg] at hc
          cases hc
          exact ht rfl)).trans (blk_alloc hg _)
      exact ⟨z1, z2, ⟨wr, hpg z3 (by decide)⟩, hpg z4 (by decide)⟩
    have hrb6 : ∀ g, (Value.slice ao' n' cap').ownBlock = some g → rb = some g ∨ w.heap.size ≤ g := fun g hg => by
      rcases hat with h | h
      · exact Or.inl (HRG.out g (h ▸ hg))
      · rw [h] at hg
        obtain ⟨_, _, _, hz, _⟩ := HO5.out
        cases hg
        exact Or.inr (Nat.le_succ_of_le hz)
    have HO6 := Lib.hid hO6
    have HS6 := Lib.hid hS6
    have HR6 := Lib.hid hrb6
    have HW6 := Lib.hid hown6
    have HJ6 := Lib.hid hv6
    clear e0 e1 e2 e3 e4 e5 f0 f1 f2 f3 f4 f5 hgrow hown6 hjg hat hO6 hS6 hrb6
    obtain ⟨e0, e1, e2, e3, e4, e5, f0, f1, f2, f3, f4, f5⟩ := jnF hv6
    clear hv6
    go_wp2_with fail
    go_ret
    have hO67 : Only [j] w6 ((w6.setCell ⟨j, 3, none⟩ (.slice ao' n' cap')).setCell ⟨j, 4, none⟩ (.int .i64 (T : Int))) := ((Only.refl _ w6).setCell (p := ⟨j, 3, none⟩) (Or.inl (by simp)) _).setCell (p := ⟨j, 4, none⟩) (Or.inl (by simp)) _
    refine ⟨?_, ?_, by rw [HQ.out, HQ2.out]; rfl, Or.inr ⟨by rw [HQ.out]; exact HQ2.out, (Value.slice ao' n' cap').ownBlock, HR6.out, ⟨_, ?_, ?_, rfl⟩⟩⟩
    · exact ((HO5.out.mono (by simp)).tr HO6.out).tr (hO67.mono (by simp))
    · rw [HQ.out]
      exact HS6.out.only hO67 (by simp; omega) (by simp; omega)
    · rw [show fin + (s.data.toList.length + 8) = T by rw [HT.out, HL.out]; rfl]
      exact blk_set (blk_set HJ6.out 3 (.slice ao' n' cap')) 4 (.int .i64 (T : Int))
    · rw [List.length_append, List.map_append, List.map_singleton, strV, mkS_list]
      refine own_of_only HW6.out (S := [j]) hO67 ?_
      intro g hg
      rw [List.mem_singleton.1 hg]
      exact ⟨_, _, _, HJ6.out, by decide⟩
  · have hne : (q.2 != 0) = true := by rw [bne_iff_ne]; exact hq2
    have HQ2 := Lib.hid hq2
    clear hq2
    go_wp2_with fail
    go_ret
    refine ⟨?_, ?_, by rw [HQ.out]; rfl, Or.inl ⟨by rw [HQ.out]; exact HQ2.out, ⟨v3, blk_set HJ5.out 5 (.bool true), ?_, HRB3.out⟩⟩⟩
    · exact (HO5.out.mono (by simp)).setCell (p := ⟨j, 5, none⟩) (Or.inl (by simp)) _
    · rw [HQ.out]
      exact HS5.out.only (S := [j]) ((Only.refl _ _).setCell (p := ⟨j, 5, none⟩) (Or.inl (by simp)) _) (by simp; omega) (by simp; omega)
    · refine own_of_only HW5.out (S := [j]) ((Only.refl _ _).setCell (p := ⟨j, 5, none⟩) (Or.inl (by simp)) _) ?_
      intro g hg
      rw [List.mem_singleton.1 hg]
      exact ⟨_, _, _, HJ5.out, by decide⟩
end Go.Proofs.YtngcdkbnljoodaaGreatDoor

