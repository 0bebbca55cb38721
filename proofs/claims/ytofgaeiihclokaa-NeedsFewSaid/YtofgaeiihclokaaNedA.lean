/- The law's awake: calls whose answers the document fixes; it returns true. No conditions beyond those typed. -/
import Derived.Test.YtofgaeiihclokaaNedU
namespace Go.Proofs.Ytofgaeiihclokaa.P
open Go.RowKit Go.Shelf Go.Lib Go.Sort Go.Maps Go.Proofs.YtofgaeiihclokaaW.PrintWords Go.Proofs.YtofgaeiihclokaaW.PrintLast Go.Proofs.YtofgaeiihclokaaW.PrintMore
set_option linter.unusedVariables false
set_option linter.unusedSimpArgs false

def ev0 : S68 := ⟨⟨#[]⟩, ⟨#[]⟩, ⟨#[]⟩, true, false, -1⟩
def ev1 : S68 := ⟨⟨#[]⟩, ⟨#[]⟩, ⟨#[]⟩, true, false, 3⟩
def ev2 : S68 := ⟨⟨#[]⟩, ⟨#[]⟩, ⟨#[]⟩, false, false, -1⟩
def aE : List S68 := [ev0, ev1, ev2]
def aT : List S48 := [⟨1, 0, 1, 4⟩, ⟨2, 1, 2, 0⟩, ⟨4, 2, 0, 0⟩]



/-- A literal of numbers is read. -/
theorem lit_C (W : World) (xs : List Int) (h : xs.length ≤ 9223372036854775807) : Kd.C (Kd.int .i64) (W.alloc (.cells (xs.map (Value.int .i64)).toArray 3)) (some ⟨W.heap.size, 0, none⟩) xs.length xs := by
  obtain ⟨A, c, he, _, hC⟩ := Kd.R_reads (Kd.R_of_own (enc := Value.int .i64) (h1 := fun _ => rfl) (ok := fun _ => True) (own_lit W 0 3 .i64 xs (Nat.zero_le _) h) (fun _ _ => trivial))
  injection he with he
  subst he
  exact hC
/-- The same lists are the same. -/
theorem same_of (A0 A1 : Option Addr) (c0 c1 : Nat) (l : List Int) (W : World) (h0 : Kd.C (Kd.int .i64) W A0 l.length l) (hc0 : l.length ≤ c0) (h1 : Kd.C (Kd.int .i64) W A1 l.length l) (hc1 : l.length ≤ c1) (hl : l.length < 4398046511104) :
    Calls Try.prog 14 #[.slice A0 l.length c0, .slice A1 l.length c1] W fun e w' => e = .returned (.bool true) ∧ Below W.heap.size W w' := by
  obtain ⟨k, hk⟩ := (same_ev l hl).at
  refine (replevinref06_Same.calls k A0 c0 l A1 c1 l true W h0 hc0 h1 hc1 hk).mono ?_
  rintro e w' ⟨rfl, q, hq⟩
  exact ⟨rfl, by first | (subst hq; exact below_drewN' (Below.refl _ _) _) | exact hq⟩

/-- The law's graph, in memory. -/
structure AIn (w wr : World) : Prop where
  on : Below w.heap.size w wr
  ev : Kd.C k68 wr (some ⟨w.heap.size, 0, none⟩) 3 aE
  ti : Kd.C k48 wr (some ⟨w.heap.size + 1, 0, none⟩) 3 aT
  box : wr.heap[w.heap.size + 1 + 1]? = some (.cells #[.slice (some ⟨w.heap.size, 0, none⟩) 3 3, .slice (some ⟨w.heap.size + 1, 0, none⟩) 3 3] 25 (0, 0))
theorem AIn.keep {w wr wq : World} (h : AIn w wr) (hb : Below wr.heap.size wr wq) : AIn w wq where
  on := h.on.trans (hb.mono h.on.size)
  ev := Kd.C_below h.ev hb
  ti := Kd.C_below h.ti hb
  box := (hb.block _ (Array.getElem?_eq_some_iff.1 h.box).1).trans h.box

/-- What a call of the layer tells of it: a row that is read. -/
def Told (l : List Int) (W : World) : Ending → World → Prop := fun e w' => ∃ A c, e = .returned (.slice A l.length c) ∧ l.length ≤ c ∧ Kd.C (Kd.int .i64) w' A l.length l ∧ Below W.heap.size W w'
theorem told_of {l : List Int} {W : World} {e : Ending} {w' : World} (h : ∃ v0_ : Value, e = .returned (v0_) ∧ Kd.R (Kd.int .i64) 3 w' W.heap.size (fun _ => True) v0_ l ∧ Below W.heap.size W w') : Told l W e w' := by
  obtain ⟨v, rfl, hr, hb⟩ := h
  obtain ⟨A, c, rfl, hc, hC⟩ := Kd.R_reads hr
  exact ⟨A, c, rfl, hc, hC, hb⟩
theorem aw_blocks {w wr : World} (h : AIn w wr) : Calls Try.prog 15 #[.agg #[.slice (some ⟨w.heap.size, 0, none⟩) 3 3, .slice (some ⟨w.heap.size + 1, 0, none⟩) 3 3], .int .i64 1] wr (Told [0] wr) :=
  (needs_Blocks.calls _ 3 aE _ 3 aT 1 [0] wr h.ev (Nat.le_refl _) h.ti (Nat.le_refl _) (by decide)).mono (fun _ _ h => told_of h)
theorem aw_calls {w wr : World} (h : AIn w wr) : Calls Try.prog 17 #[.agg #[.slice (some ⟨w.heap.size, 0, none⟩) 3 3, .slice (some ⟨w.heap.size + 1, 0, none⟩) 3 3], .int .i64 1] wr (Told [2] wr) :=
  (needs_Calls.calls _ 3 aE _ 3 aT 1 [2] wr h.ev (Nat.le_refl _) h.ti (Nat.le_refl _) (by decide)).mono (fun _ _ h => told_of h)
theorem aw_called {w wr : World} (h : AIn w wr) : Calls Try.prog 22 #[.agg #[.slice (some ⟨w.heap.size, 0, none⟩) 3 3, .slice (some ⟨w.heap.size + 1, 0, none⟩) 3 3]] wr (Told [1, 2] wr) :=
  (needs_Called.calls _ 3 aE _ 3 aT [1, 2] wr h.ev (Nat.le_refl _) h.ti (Nat.le_refl _) (by rw [needs_Called.tells aE aT (by decide) (by decide)]; decide)).mono (fun _ _ h => told_of h)
theorem aw_excluded {w wr : World} (h : AIn w wr) : Calls Try.prog 26 #[.agg #[.slice (some ⟨w.heap.size, 0, none⟩) 3 3, .slice (some ⟨w.heap.size + 1, 0, none⟩) 3 3]] wr (Told [0, 2] wr) :=
  (needs_Excluded.calls _ 3 aE _ 3 aT [0, 2] wr h.ev (Nat.le_refl _) h.ti (Nat.le_refl _) (by rw [needs_Excluded.tells aE aT (by decide) (by decide)]; decide)).mono (fun _ _ h => told_of h)
theorem aw_matters {w wr : World} (h : AIn w wr) : Calls Try.prog 24 #[.agg #[.slice (some ⟨w.heap.size, 0, none⟩) 3 3, .slice (some ⟨w.heap.size + 1, 0, none⟩) 3 3]] wr (Told [0, 1, 2] wr) := by
  obtain ⟨k, hk⟩ := (matters_ev aE aT (by decide) (by decide)).at
  rw [show pick aE.length (mattersB aE aT) = [0, 1, 2] by decide] at hk
  exact (needs_Matters.calls k _ 3 aE _ 3 aT [0, 1, 2] wr h.ev (Nat.le_refl _) h.ti (Nat.le_refl _) hk).mono (fun _ _ h => told_of h)
theorem aw_delay {w wr : World} (h : AIn w wr) (a r : Int) (hr : delayB 3 aT a 0 = r) : Calls Try.prog 28 #[.agg #[.slice (some ⟨w.heap.size, 0, none⟩) 3 3, .slice (some ⟨w.heap.size + 1, 0, none⟩) 3 3], .int .i64 a] wr fun e w' => e = .returned (.int .i64 r) ∧ Below wr.heap.size wr w' := by
  obtain ⟨k, hk⟩ := (delay_ev aE aT a (by decide)).at
  rw [show delayB aE.length aT a 0 = r from hr] at hk
  refine (needs_Delay.calls k _ 3 aE _ 3 aT a r wr h.ev (Nat.le_refl _) h.ti (Nat.le_refl _) hk).mono ?_
  rintro e w' ⟨rfl, hb⟩
  exact ⟨rfl, by first | exact hb | (obtain ⟨q, rfl⟩ := hb; exact below_drewN' (Below.refl _ _) _)⟩
/-- The net, and its second row. -/
theorem aw_net {w wr : World} (h : AIn w wr) : Calls Try.prog 20 #[.agg #[.slice (some ⟨w.heap.size, 0, none⟩) 3 3, .slice (some ⟨w.heap.size + 1, 0, none⟩) 3 3]] wr fun e w' => ∃ ad c A1 c1, e = .returned (.slice (some ad) 3 c) ∧ w'.cell? ⟨ad.block, ad.off + 1, none⟩ = some (.slice A1 2 c1) ∧ 2 ≤ c1 ∧ Kd.C (Kd.int .i64) w' A1 2 [0, 2] ∧ Below wr.heap.size wr w' := by
  refine (needs_Net.calls _ 3 aE _ 3 aT [[], [0, 2], []] wr h.ev (Nat.le_refl _) h.ti (Nat.le_refl _) (by rw [needs_Net.tells aE aT (by decide) (by decide)]; decide)).mono ?_
  rintro e w' ⟨v, rfl, hS, hb⟩
  obtain ⟨A, c, rfl, hc, hC⟩ := Kd.S_reads hS
  obtain ⟨ad, A1, c1, rfl, hcell, hc1, hC1⟩ := net_at hC 1 (by decide) (by decide)
  exact ⟨ad, c, A1, c1, rfl, hcell, hc1, hC1, hb⟩

theorem events_C (W : World) (b : Nat) (h : W.heap[b]? = some (.cells #[.string ⟨#[]⟩, .string ⟨#[]⟩, .string ⟨#[]⟩, .bool true, .bool false, .int .i64 (-1), .string ⟨#[]⟩, .string ⟨#[]⟩, .string ⟨#[]⟩, .bool true, .bool false, .int .i64 3, .string ⟨#[]⟩, .string ⟨#[]⟩, .string ⟨#[]⟩, .bool false, .bool false, .int .i64 (-1)] 68 (0, 0))) : Kd.C k68 W (some ⟨b, 0, none⟩) 3 aE := by
  refine ⟨rfl, by decide, fun _ => ⟨_, rfl, fun j p hj => ?_⟩⟩
  rcases j with _ | _ | _ | j
  · obtain rfl : ev0 = p := by simpa [aE] using hj
    refine ⟨_, rfl, k68_mk W ev0, fun i u hu => ?_⟩
    rw [add_plain, blkc h]
    rcases i with _ | _ | _ | _ | _ | _ | i <;> first | exact hu | (simp at hu)
  · obtain rfl : ev1 = p := by simpa [aE] using hj
    refine ⟨_, rfl, k68_mk W ev1, fun i u hu => ?_⟩
    rw [add_plain, blkc h]
    rcases i with _ | _ | _ | _ | _ | _ | i <;> first | exact hu | (simp at hu)
  · obtain rfl : ev2 = p := by simpa [aE] using hj
    refine ⟨_, rfl, k68_mk W ev2, fun i u hu => ?_⟩
    rw [add_plain, blkc h]
    rcases i with _ | _ | _ | _ | _ | _ | i <;> first | exact hu | (simp at hu)
  · simp [aE] at hj
theorem ties_C (W : World) (b : Nat) (h : W.heap[b]? = some (.cells #[.int .i64 1, .int .i64 0, .int .i64 1, .int .i64 4, .int .i64 2, .int .i64 1, .int .i64 2, .int .i64 0, .int .i64 4, .int .i64 2, .int .i64 0, .int .i64 0] 48 (0, 0))) : Kd.C k48 W (some ⟨b, 0, none⟩) 3 aT := by
  refine ⟨rfl, by decide, fun _ => ⟨_, rfl, fun j p hj => ?_⟩⟩
  rcases j with _ | _ | _ | j
  · obtain rfl : (⟨1, 0, 1, 4⟩ : S48) = p := by simpa [aT] using hj
    refine ⟨_, rfl, k48_mk W _, fun i u hu => ?_⟩
    rw [add_plain, blkc h]
    rcases i with _ | _ | _ | _ | i <;> first | exact hu | (simp at hu)
  · obtain rfl : (⟨2, 1, 2, 0⟩ : S48) = p := by simpa [aT] using hj
    refine ⟨_, rfl, k48_mk W _, fun i u hu => ?_⟩
    rw [add_plain, blkc h]
    rcases i with _ | _ | _ | _ | i <;> first | exact hu | (simp at hu)
  · obtain rfl : (⟨4, 2, 0, 0⟩ : S48) = p := by simpa [aT] using hj
    refine ⟨_, rfl, k48_mk W _, fun i u hu => ?_⟩
    rw [add_plain, blkc h]
    rcases i with _ | _ | _ | _ | i <;> first | exact hu | (simp at hu)
  · simp [aT] at hj

theorem ain_start (w : World) : AIn w (((w.alloc (.cells #[.string ⟨#[]⟩, .string ⟨#[]⟩, .string ⟨#[]⟩, .bool true, .bool false, .int .i64 (-1), .string ⟨#[]⟩, .string ⟨#[]⟩, .string ⟨#[]⟩, .bool true, .bool false, .int .i64 3, .string ⟨#[]⟩, .string ⟨#[]⟩, .string ⟨#[]⟩, .bool false, .bool false, .int .i64 (-1)] 68)).alloc (.cells #[.int .i64 1, .int .i64 0, .int .i64 1, .int .i64 4, .int .i64 2, .int .i64 1, .int .i64 2, .int .i64 0, .int .i64 4, .int .i64 2, .int .i64 0, .int .i64 0] 48)).alloc (.cells #[.slice (some ⟨w.heap.size, 0, none⟩) 3 3, .slice (some ⟨w.heap.size + 1, 0, none⟩) 3 3] 25)) := by
  have b0 : (((w.alloc (.cells #[.string ⟨#[]⟩, .string ⟨#[]⟩, .string ⟨#[]⟩, .bool true, .bool false, .int .i64 (-1), .string ⟨#[]⟩, .string ⟨#[]⟩, .string ⟨#[]⟩, .bool true, .bool false, .int .i64 3, .string ⟨#[]⟩, .string ⟨#[]⟩, .string ⟨#[]⟩, .bool false, .bool false, .int .i64 (-1)] 68)).alloc (.cells #[.int .i64 1, .int .i64 0, .int .i64 1, .int .i64 4, .int .i64 2, .int .i64 1, .int .i64 2, .int .i64 0, .int .i64 4, .int .i64 2, .int .i64 0, .int .i64 0] 48)).alloc (.cells #[.slice (some ⟨w.heap.size, 0, none⟩) 3 3, .slice (some ⟨w.heap.size + 1, 0, none⟩) 3 3] 25)).heap[w.heap.size]? = some (.cells #[.string ⟨#[]⟩, .string ⟨#[]⟩, .string ⟨#[]⟩, .bool true, .bool false, .int .i64 (-1), .string ⟨#[]⟩, .string ⟨#[]⟩, .string ⟨#[]⟩, .bool true, .bool false, .int .i64 3, .string ⟨#[]⟩, .string ⟨#[]⟩, .string ⟨#[]⟩, .bool false, .bool false, .int .i64 (-1)] 68 (0, 0)) := by
    rw [Below.heap_alloc _ _ _ (by simp; omega), Below.heap_alloc _ _ _ (by simp)]
    exact blk_new w _
  have b1 : (((w.alloc (.cells #[.string ⟨#[]⟩, .string ⟨#[]⟩, .string ⟨#[]⟩, .bool true, .bool false, .int .i64 (-1), .string ⟨#[]⟩, .string ⟨#[]⟩, .string ⟨#[]⟩, .bool true, .bool false, .int .i64 3, .string ⟨#[]⟩, .string ⟨#[]⟩, .string ⟨#[]⟩, .bool false, .bool false, .int .i64 (-1)] 68)).alloc (.cells #[.int .i64 1, .int .i64 0, .int .i64 1, .int .i64 4, .int .i64 2, .int .i64 1, .int .i64 2, .int .i64 0, .int .i64 4, .int .i64 2, .int .i64 0, .int .i64 0] 48)).alloc (.cells #[.slice (some ⟨w.heap.size, 0, none⟩) 3 3, .slice (some ⟨w.heap.size + 1, 0, none⟩) 3 3] 25)).heap[w.heap.size + 1]? = some (.cells #[.int .i64 1, .int .i64 0, .int .i64 1, .int .i64 4, .int .i64 2, .int .i64 1, .int .i64 2, .int .i64 0, .int .i64 4, .int .i64 2, .int .i64 0, .int .i64 0] 48 (0, 0)) := by
    rw [Below.heap_alloc _ _ _ (by simp)]
    have := blk_new (w.alloc (.cells #[.string ⟨#[]⟩, .string ⟨#[]⟩, .string ⟨#[]⟩, .bool true, .bool false, .int .i64 (-1), .string ⟨#[]⟩, .string ⟨#[]⟩, .string ⟨#[]⟩, .bool true, .bool false, .int .i64 3, .string ⟨#[]⟩, .string ⟨#[]⟩, .string ⟨#[]⟩, .bool false, .bool false, .int .i64 (-1)] 68)) (.cells #[.int .i64 1, .int .i64 0, .int .i64 1, .int .i64 4, .int .i64 2, .int .i64 1, .int .i64 2, .int .i64 0, .int .i64 4, .int .i64 2, .int .i64 0, .int .i64 0] 48)
    simpa using this
  refine ⟨(((Below.refl w.heap.size w).alloc (Nat.le_refl _) _).alloc (by simp) _).alloc (by simp; omega) _, events_C _ _ b0, ties_C _ _ b1, ?_⟩
  have := blk_new ((w.alloc (.cells #[.string ⟨#[]⟩, .string ⟨#[]⟩, .string ⟨#[]⟩, .bool true, .bool false, .int .i64 (-1), .string ⟨#[]⟩, .string ⟨#[]⟩, .string ⟨#[]⟩, .bool true, .bool false, .int .i64 3, .string ⟨#[]⟩, .string ⟨#[]⟩, .string ⟨#[]⟩, .bool false, .bool false, .int .i64 (-1)] 68)).alloc (.cells #[.int .i64 1, .int .i64 0, .int .i64 1, .int .i64 4, .int .i64 2, .int .i64 1, .int .i64 2, .int .i64 0, .int .i64 4, .int .i64 2, .int .i64 0, .int .i64 0] 48)) (.cells #[.slice (some ⟨w.heap.size, 0, none⟩) 3 3, .slice (some ⟨w.heap.size + 1, 0, none⟩) 3 3] 25)
  simpa using this

set_option maxRecDepth 100000 in
theorem replevinlaw07_awake.calls (r : Bool) (w : World) (h : replevinlaw07_awake.f = some r) :
    Calls Try.prog 11 #[] w fun e w' => e = .returned (.bool r) ∧ Below w.heap.size w w' := by
  injection h with h
  subst h
  have H0 := Lib.hid (ain_start w)
  go_enter Try.func11, Try.ntmps11
  go_wp2_with fail
  refine (aw_net H0.out).mono ?_
  rintro e w1 ⟨ad, c, A1, c1, rfl, hcell, hc1, hC1, hb⟩
  have G0 := Lib.hid (H0.out.keep hb)
  have HC := Lib.hid hC1
  clear hC1 hb H0
  go_wp2_with fail
  refine (same_of A1 _ c1 _ [0, 2] _ (Kd.C_below HC.out (below_alloc (Below.refl _ _) _)) hc1 (lit_C _ [0, 2] (by decide)) (Nat.le_refl _) (by decide)).mono ?_
  rintro e w2 ⟨rfl, hb⟩
  have H2 := Lib.hid (G0.out.keep ((below_alloc (Below.refl _ _) _).trans (hb.mono (by simp))))
  have b0 := blkc H2.out.box 0
  have b1 := blkc H2.out.box 1
  change _ = some (Value.slice (some ⟨w.heap.size, 0, none⟩) 3 3) at b0
  change _ = some (Value.slice (some ⟨w.heap.size + 1, 0, none⟩) 3 3) at b1
  clear hb HC G0 hcell hc1
  go_wp2_with fail
  refine (aw_blocks H2.out).mono ?_
  rintro e w3 ⟨A, c, rfl, hc, hC, hb⟩
  have G3 := Lib.hid (H2.out.keep hb)
  have HC := Lib.hid hC
  clear hC hb H2 b0 b1
  go_wp2_with fail
  refine (same_of A _ c _ [0] _ (Kd.C_below HC.out (below_alloc (Below.refl _ _) _)) hc (lit_C _ [0] (by decide)) (Nat.le_refl _) (by decide)).mono ?_
  rintro e w4 ⟨rfl, hb⟩
  have H4 := Lib.hid (G3.out.keep ((below_alloc (Below.refl _ _) _).trans (hb.mono (by simp))))
  have b0 := blkc H4.out.box 0
  have b1 := blkc H4.out.box 1
  change _ = some (Value.slice (some ⟨w.heap.size, 0, none⟩) 3 3) at b0
  change _ = some (Value.slice (some ⟨w.heap.size + 1, 0, none⟩) 3 3) at b1
  clear hb HC G3 hc
  go_wp2_with fail
  refine (aw_calls H4.out).mono ?_
  rintro e w5 ⟨A, c, rfl, hc, hC, hb⟩
  have G5 := Lib.hid (H4.out.keep hb)
  have HC := Lib.hid hC
  clear hC hb H4 b0 b1
  go_wp2_with fail
  refine (same_of A _ c _ [2] _ (Kd.C_below HC.out (below_alloc (Below.refl _ _) _)) hc (lit_C _ [2] (by decide)) (Nat.le_refl _) (by decide)).mono ?_
  rintro e w6 ⟨rfl, hb⟩
  have H6 := Lib.hid (G5.out.keep ((below_alloc (Below.refl _ _) _).trans (hb.mono (by simp))))
  have b0 := blkc H6.out.box 0
  have b1 := blkc H6.out.box 1
  change _ = some (Value.slice (some ⟨w.heap.size, 0, none⟩) 3 3) at b0
  change _ = some (Value.slice (some ⟨w.heap.size + 1, 0, none⟩) 3 3) at b1
  clear hb HC G5 hc
  go_wp2_with fail
  refine (aw_called H6.out).mono ?_
  rintro e w7 ⟨A, c, rfl, hc, hC, hb⟩
  have G7 := Lib.hid (H6.out.keep hb)
  have HC := Lib.hid hC
  clear hC hb H6 b0 b1
  go_wp2_with fail
  refine (same_of A _ c _ [1, 2] _ (Kd.C_below HC.out (below_alloc (Below.refl _ _) _)) hc (lit_C _ [1, 2] (by decide)) (Nat.le_refl _) (by decide)).mono ?_
  rintro e w8 ⟨rfl, hb⟩
  have H8 := Lib.hid (G7.out.keep ((below_alloc (Below.refl _ _) _).trans (hb.mono (by simp))))
  have b0 := blkc H8.out.box 0
  have b1 := blkc H8.out.box 1
  change _ = some (Value.slice (some ⟨w.heap.size, 0, none⟩) 3 3) at b0
  change _ = some (Value.slice (some ⟨w.heap.size + 1, 0, none⟩) 3 3) at b1
  clear hb HC G7 hc
  go_wp2_with fail
  refine (aw_matters H8.out).mono ?_
  rintro e w9 ⟨A, c, rfl, hc, hC, hb⟩
  have G9 := Lib.hid (H8.out.keep hb)
  have HC := Lib.hid hC
  clear hC hb H8 b0 b1
  go_wp2_with fail
  refine (same_of A _ c _ [0, 1, 2] _ (Kd.C_below HC.out (below_alloc (Below.refl _ _) _)) hc (lit_C _ [0, 1, 2] (by decide)) (Nat.le_refl _) (by decide)).mono ?_
  rintro e w10 ⟨rfl, hb⟩
  have H10 := Lib.hid (G9.out.keep ((below_alloc (Below.refl _ _) _).trans (hb.mono (by simp))))
  have b0 := blkc H10.out.box 0
  have b1 := blkc H10.out.box 1
  change _ = some (Value.slice (some ⟨w.heap.size, 0, none⟩) 3 3) at b0
  change _ = some (Value.slice (some ⟨w.heap.size + 1, 0, none⟩) 3 3) at b1
  clear hb HC G9 hc
  go_wp2_with fail
  refine (aw_excluded H10.out).mono ?_
  rintro e w11 ⟨A, c, rfl, hc, hC, hb⟩
  have G11 := Lib.hid (H10.out.keep hb)
  have HC := Lib.hid hC
  clear hC hb H10 b0 b1
  go_wp2_with fail
  refine (same_of A _ c _ [0, 2] _ (Kd.C_below HC.out (below_alloc (Below.refl _ _) _)) hc (lit_C _ [0, 2] (by decide)) (Nat.le_refl _) (by decide)).mono ?_
  rintro e w12 ⟨rfl, hb⟩
  have H12 := Lib.hid (G11.out.keep ((below_alloc (Below.refl _ _) _).trans (hb.mono (by simp))))
  have b0 := blkc H12.out.box 0
  have b1 := blkc H12.out.box 1
  change _ = some (Value.slice (some ⟨w.heap.size, 0, none⟩) 3 3) at b0
  change _ = some (Value.slice (some ⟨w.heap.size + 1, 0, none⟩) 3 3) at b1
  clear hb HC G11 hc
  go_wp2_with fail
  refine (aw_delay H12.out 1 4 (by decide)).mono ?_
  rintro e w13 ⟨rfl, hb⟩
  have H13 := Lib.hid (H12.out.keep hb)
  have b0 := blkc H13.out.box 0
  have b1 := blkc H13.out.box 1
  change _ = some (Value.slice (some ⟨w.heap.size, 0, none⟩) 3 3) at b0
  change _ = some (Value.slice (some ⟨w.heap.size + 1, 0, none⟩) 3 3) at b1
  clear hb H12
  go_wp2_with fail
  refine (aw_delay H13.out 0 0 (by decide)).mono ?_
  rintro e w14 ⟨rfl, hb⟩
  have H14 := Lib.hid (H13.out.keep hb)
  have b0 := blkc H14.out.box 0
  have b1 := blkc H14.out.box 1
  change _ = some (Value.slice (some ⟨w.heap.size, 0, none⟩) 3 3) at b0
  change _ = some (Value.slice (some ⟨w.heap.size + 1, 0, none⟩) 3 3) at b1
  clear hb H13
  go_wp2_with fail
  go_ret
  exact ⟨rfl, H14.out.on⟩
end Go.Proofs.Ytofgaeiihclokaa.P
