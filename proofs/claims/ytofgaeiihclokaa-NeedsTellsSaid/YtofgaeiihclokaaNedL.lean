/- NeedsTells' walk: the layer and its reference tell the same of any graph that isn't too large. No conditions beyond those typed. -/
import Derived.Test.YtofgaeiihclokaaNedO
namespace Go.Proofs.Ytofgaeiihclokaa.P
open Go.RowKit Go.Shelf Go.Lib Go.Sort Go.Maps Go.Proofs.YtofgaeiihclokaaW.PrintWords Go.Proofs.YtofgaeiihclokaaW.PrintLast Go.Proofs.YtofgaeiihclokaaW.PrintMore
set_option linter.unusedVariables false
set_option linter.unusedSimpArgs false

/-- Like lists of lists are the same. -/
theorem all_of (A0 A1 : Option Addr) (c0 c1 : Nat) (l : List (List Int)) (W : World) (h0 : Kd.C (Kd.slice 3 (Kd.int .i64)) W A0 l.length l) (hc0 : l.length ≤ c0) (h1 : Kd.C (Kd.slice 3 (Kd.int .i64)) W A1 l.length l) (hc1 : l.length ≤ c1) (hl : l.length < 4398046511104) (hr : ∀ i, i < l.length → (l.getD i []).length < 4398046511104) :
    Calls Try.prog 19 #[.slice A0 l.length c0, .slice A1 l.length c1] W fun e w' => e = .returned (.bool true) ∧ Below W.heap.size W w' := by
  obtain ⟨k, hk⟩ := (all_ev l hl hr).at
  refine (replevinref06_All.calls k A0 c0 l A1 c1 l true W h0 hc0 h1 hc1 hk).mono ?_
  rintro e w' ⟨rfl, hq⟩
  exact ⟨rfl, by obtain ⟨q, rfl⟩ := hq.out; exact below_drewN' (Below.refl _ _) _⟩

/-- The law's graph, and the reference's, in memory. -/
structure LIn (w : World) (bf bx : Nat) (A0 A1 A2 : Option Addr) (c0 c1 c2 : Nat) (E : List S68) (T : List S48) (wr : World) : Prop where
  on : Below w.heap.size w wr
  ev : Kd.C k68 wr A0 E.length E
  ti : Kd.C k48 wr A1 T.length T
  rt : Kd.C k69 wr A2 T.length (T.map conv)
  p0 : E.length ≤ c0
  p1 : T.length ≤ c1
  p2 : T.length ≤ c2
  bf : wr.heap[bf]? = some (.cells #[.slice A0 E.length c0, .slice A1 T.length c1] 25 (0, 0))
  bx : wr.heap[bx]? = some (.cells #[.slice A0 E.length c0, .slice A2 T.length c2] 30 (0, 0))
section
variable {w wr wq : World} {bf bx : Nat} {A0 A1 A2 : Option Addr} {c0 c1 c2 : Nat} {E : List S68} {T : List S48}
theorem LIn.keep (h : LIn w bf bx A0 A1 A2 c0 c1 c2 E T wr) (hb : Below wr.heap.size wr wq) : LIn w bf bx A0 A1 A2 c0 c1 c2 E T wq where
  on := h.on.trans (hb.mono h.on.size)
  ev := Kd.C_below h.ev hb
  ti := Kd.C_below h.ti hb
  rt := Kd.C_below h.rt hb
  p0 := h.p0
  p1 := h.p1
  p2 := h.p2
  bf := (hb.block _ (Array.getElem?_eq_some_iff.1 h.bf).1).trans h.bf
  bx := (hb.block _ (Array.getElem?_eq_some_iff.1 h.bx).1).trans h.bx
theorem conv_len (h : LIn w bf bx A0 A1 A2 c0 c1 c2 E T wr) : Kd.C k69 wr A2 (T.map conv).length (T.map conv) := by rw [List.length_map]; exact h.rt
/-- What Net tells. -/
def ToldN (l : List (List Int)) (W : World) : Ending → World → Prop := fun e w' => ∃ A c, e = .returned (.slice A l.length c) ∧ l.length ≤ c ∧ Kd.C (Kd.slice 3 (Kd.int .i64)) w' A l.length l ∧ Below W.heap.size W w'
theorem toldN_of {l : List (List Int)} {W : World} {e : Ending} {w' : World} (h : ∃ v0_ : Value, e = .returned (v0_) ∧ Kd.S (Kd.slice 3 (Kd.int .i64)) 33 w' W.heap.size (fun _ => True) v0_ l ∧ Below W.heap.size W w') : ToldN l W e w' := by
  obtain ⟨v, rfl, hr, hb⟩ := h
  obtain ⟨A, c, rfl, hc, hC⟩ := Kd.S_reads hr
  exact ⟨A, c, rfl, hc, hC, hb⟩
variable (h : LIn w bf bx A0 A1 A2 c0 c1 c2 E T wr) (hE : E.length ≤ 20) (hT : T.length ≤ 150)
include h hE hT
theorem l_blocks (a : Int) : Calls Try.prog 15 #[.agg #[.slice A0 E.length c0, .slice A1 T.length c1], .int .i64 a] wr (Told (pick E.length (blocksB E.length T a)) wr) := by
  refine (needs_Blocks.calls A0 c0 E A1 c1 T a _ wr h.ev h.p0 h.ti h.p1 ?_).mono (fun _ _ h => told_of h)
  unfold needs_Blocks.f; rw [if_pos (by have := hE; omega), blocks_pick]
theorem l_calls (a : Int) : Calls Try.prog 17 #[.agg #[.slice A0 E.length c0, .slice A1 T.length c1], .int .i64 a] wr (Told (pick E.length (callsB E.length T a)) wr) := by
  refine (needs_Calls.calls A0 c0 E A1 c1 T a _ wr h.ev h.p0 h.ti h.p1 ?_).mono (fun _ _ h => told_of h)
  unfold needs_Calls.f; rw [if_pos (by have := hE; omega), calls_pick]
theorem l_net : Calls Try.prog 20 #[.agg #[.slice A0 E.length c0, .slice A1 T.length c1]] wr (ToldN (netL E T) wr) := by
  refine (needs_Net.calls A0 c0 E A1 c1 T _ wr h.ev h.p0 h.ti h.p1 ?_).mono (fun _ _ h => toldN_of h)
  exact needs_Net.tells E T (by omega) (by omega)
theorem l_called : Calls Try.prog 22 #[.agg #[.slice A0 E.length c0, .slice A1 T.length c1]] wr (Told (pick E.length (calledB E T)) wr) := by
  refine (needs_Called.calls A0 c0 E A1 c1 T _ wr h.ev h.p0 h.ti h.p1 ?_).mono (fun _ _ h => told_of h)
  exact needs_Called.tells E T (by omega) (by omega)
theorem l_excluded : Calls Try.prog 26 #[.agg #[.slice A0 E.length c0, .slice A1 T.length c1]] wr (Told (pick E.length (outB E T)) wr) := by
  refine (needs_Excluded.calls A0 c0 E A1 c1 T _ wr h.ev h.p0 h.ti h.p1 ?_).mono (fun _ _ h => told_of h)
  exact needs_Excluded.tells E T (by omega) (by omega)
theorem l_matters : Calls Try.prog 24 #[.agg #[.slice A0 E.length c0, .slice A1 T.length c1]] wr (Told (pick E.length (mattersB E T)) wr) := by
  obtain ⟨k, hk⟩ := (matters_ev E T (by omega) (by omega)).at
  exact (needs_Matters.calls k A0 c0 E A1 c1 T _ wr h.ev h.p0 h.ti h.p1 hk).mono (fun _ _ h => told_of h)
theorem l_delay (a : Int) : Calls Try.prog 28 #[.agg #[.slice A0 E.length c0, .slice A1 T.length c1], .int .i64 a] wr fun e w' => e = .returned (.int .i64 (delayB E.length T a 0)) ∧ Below wr.heap.size wr w' := by
  obtain ⟨k, hk⟩ := (delay_ev E T a (by have := hE; omega)).at
  exact needs_Delay.calls k A0 c0 E A1 c1 T a _ wr h.ev h.p0 h.ti h.p1 hk
theorem r_blocks (a : Int) : Calls Try.prog 16 #[.agg #[.slice A0 E.length c0, .slice A2 T.length c2], .int .i64 a] wr (Told (pick E.length (blocksB E.length T a)) wr) := by
  obtain ⟨k, hk⟩ := (rblocks_ev E T a (by omega) (by omega)).at
  have := replevinref07_Blocks.calls k A0 c0 E A2 c2 (T.map conv) a _ wr h.ev h.p0 (conv_len h) (by rw [List.length_map]; exact h.p2) hk
  rw [List.length_map] at this
  exact this.mono (fun _ _ h => told_of h)
theorem r_calls (a : Int) : Calls Try.prog 18 #[.agg #[.slice A0 E.length c0, .slice A2 T.length c2], .int .i64 a] wr (Told (pick E.length (callsB E.length T a)) wr) := by
  obtain ⟨k, hk⟩ := (rcalls_ev E T a (by omega) (by omega)).at
  have := replevinref07_Calls.calls k A0 c0 E A2 c2 (T.map conv) a _ wr h.ev h.p0 (conv_len h) (by rw [List.length_map]; exact h.p2) hk
  rw [List.length_map] at this
  exact this.mono (fun _ _ h => told_of h)
theorem r_net : Calls Try.prog 21 #[.agg #[.slice A0 E.length c0, .slice A2 T.length c2]] wr (ToldN (netL E T) wr) := by
  obtain ⟨k, hk⟩ := (rnet_ev E T (by omega) (by omega)).at
  have := replevinref07_Net.calls k A0 c0 E A2 c2 (T.map conv) _ wr h.ev h.p0 (conv_len h) (by rw [List.length_map]; exact h.p2) hk
  rw [List.length_map] at this
  exact this.mono (fun _ _ h => toldN_of h)
theorem r_called : Calls Try.prog 23 #[.agg #[.slice A0 E.length c0, .slice A2 T.length c2]] wr (Told (pick E.length (calledB E T)) wr) := by
  obtain ⟨k, hk⟩ := (rcalled_ev E T (by omega) (by omega)).at
  have := replevinref07_Called.calls k A0 c0 E A2 c2 (T.map conv) _ wr h.ev h.p0 (conv_len h) (by rw [List.length_map]; exact h.p2) hk
  rw [List.length_map] at this
  exact this.mono (fun _ _ h => told_of h)
theorem r_excluded : Calls Try.prog 27 #[.agg #[.slice A0 E.length c0, .slice A2 T.length c2]] wr (Told (pick E.length (outB E T)) wr) := by
  obtain ⟨k, hk⟩ := (rexcluded_ev E T (by omega) (by omega)).at
  have := replevinref07_Excluded.calls k A0 c0 E A2 c2 (T.map conv) _ wr h.ev h.p0 (conv_len h) (by rw [List.length_map]; exact h.p2) hk
  rw [List.length_map] at this
  exact this.mono (fun _ _ h => told_of h)
theorem r_matters : Calls Try.prog 25 #[.agg #[.slice A0 E.length c0, .slice A2 T.length c2]] wr (Told (pick E.length (mattersB E T)) wr) := by
  obtain ⟨k, hk⟩ := (rmatters_ev E T (by omega) (by omega)).at
  have := replevinref07_Matters.calls k A0 c0 E A2 c2 (T.map conv) _ wr h.ev h.p0 (conv_len h) (by rw [List.length_map]; exact h.p2) hk
  rw [List.length_map] at this
  exact this.mono (fun _ _ h => told_of h)
theorem r_delay (a : Int) : Calls Try.prog 29 #[.agg #[.slice A0 E.length c0, .slice A2 T.length c2], .int .i64 a] wr fun e w' => e = .returned (.int .i64 (delayB E.length T a 0)) ∧ Below wr.heap.size wr w' := by
  obtain ⟨k, hk⟩ := (rdelay_ev E T a (by have := hE; omega)).at
  have := replevinref07_Delay.calls k A0 c0 E A2 c2 (T.map conv) a _ wr h.ev h.p0 (conv_len h) (by rw [List.length_map]; exact h.p2) hk
  rw [List.length_map] at this
  refine this.mono ?_
  rintro e w' ⟨rfl, hb⟩
  exact ⟨rfl, by first | exact hb | (obtain ⟨q, rfl⟩ := hb.out; exact below_drewN' (Below.refl _ _) _)⟩
end

set_option maxHeartbeats 8000000 in
set_option maxRecDepth 100000 in
theorem NeedsTells_walk (A0 A1 : Option Addr) (c0 c1 : Nat) (E : List S68) (T : List S48) (a : Int) (w : World) (h0 : Kd.C k68 w A0 E.length E) (hc0 : E.length ≤ c0) (h1 : Kd.C k48 w A1 T.length T) (hc1 : T.length ≤ c1) :
    Calls Try.prog 3 #[.agg #[.slice A0 E.length c0, .slice A1 T.length c1], .int .i64 a] w fun e w' => e = .returned (.bool true) ∧ Below w.heap.size w w' := by
  have hb0 : Below w.heap.size w (w.alloc (.cells #[.slice A0 E.length c0, .slice A1 T.length c1] 25)) := (Below.refl w.heap.size w).alloc (Nat.le_refl _) _
  have HB0 := Lib.hid hb0
  have HK := Lib.hid (blk_new w (.cells #[.slice A0 E.length c0, .slice A1 T.length c1] 25))
  have H0 := Lib.hid h0
  have H1 := Lib.hid h1
  clear hb0 h0 h1
  go_enter Try.func3, Try.ntmps3
  go_wp2_with fail
  refine (replevinlaw07_awake.calls true _ rfl).mono ?_
  rintro e w1 ⟨rfl, hb1⟩
  have HB1 := Lib.hid (HB0.out.trans (hb1.mono HB0.out.size))
  have HK1 := Lib.hid ((hb1.block w.heap.size (by simp)).trans HK.out)
  have b0 := blkc HK1.out 0
  have b1 := blkc HK1.out 1
  change _ = some (Value.slice A0 E.length c0) at b0
  change _ = some (Value.slice A1 T.length c1) at b1
  clear hb1 HB0 HK
  go_wp2_with fail
  obtain ⟨big, hbig⟩ : ∃ big, replevinlaw07_large.f E T = some big := by
    unfold replevinlaw07_large.f
    split
    · exact ⟨_, rfl⟩
    · exact ⟨_, rfl⟩
  refine (replevinlaw07_large.calls A0 c0 E A1 c1 T big w1 (Kd.C_below H0.out HB1.out) hc0 (Kd.C_below H1.out HB1.out) hc1 hbig).mono ?_
  rintro e w2 ⟨rfl, hb2⟩
  have HB2 := Lib.hid (HB1.out.trans (hb2.mono HB1.out.size))
  have HK2 := Lib.hid ((hb2.block w.heap.size (by have := HB1.out.size; have := (Array.getElem?_eq_some_iff.1 HK1.out).1; omega)).trans HK1.out)
  have b0 := blkc HK2.out 0
  have b1 := blkc HK2.out 1
  change _ = some (Value.slice A0 E.length c0) at b0
  change _ = some (Value.slice A1 T.length c1) at b1
  clear hb2 HB1 HK1
  have HBIG := Lib.hid hbig
  clear hbig
  cases big with
  | true =>
    go_wp2_with fail
    go_ret
    exact ⟨rfl, HB2.out⟩
  | false =>
    have hsz : E.length ≤ 20 ∧ T.length ≤ 150 := by
      have := HBIG.out
      unfold replevinlaw07_large.f at this
      split at this
      · cases this
      · injection this with this
        rw [decide_eq_false_iff_not] at this
        omega
    obtain ⟨hE, hT⟩ := hsz
    go_wp2_with fail
    refine (own_of_law A0 A1 E.length c0 c1 T w2 (Kd.C_below H1.out HB2.out) hc1 (by omega)).mono ?_
    rintro e w3 ⟨A2, c2, rfl, hc2, hC2, hb3⟩
    have hb4 := below_alloc (Below.refl w3.heap.size w3) (.cells #[.slice A0 E.length c0, .slice A2 T.length c2] 30)
    have hb24 : Below w2.heap.size w2 (w3.alloc (.cells #[.slice A0 E.length c0, .slice A2 T.length c2] 30)) := hb3.trans (hb4.mono hb3.size)
    have HL : Hid (LIn w w.heap.size w3.heap.size A0 A1 A2 c0 c1 c2 E T (w3.alloc (.cells #[.slice A0 E.length c0, .slice A2 T.length c2] 30))) :=
      ⟨HB2.out.trans (hb24.mono HB2.out.size), Kd.C_below H0.out (HB2.out.trans (hb24.mono HB2.out.size)), Kd.C_below H1.out (HB2.out.trans (hb24.mono HB2.out.size)), Kd.C_below hC2 hb4, hc0, hc1, hc2,
        (hb24.block _ (Array.getElem?_eq_some_iff.1 HK2.out).1).trans HK2.out, blk_new w3 _⟩
    clear hb3 hb4 hb24 hC2 b0 b1
    have HLEN : Hid (∀ (p : Nat → Bool), (pick E.length p).length < 4398046511104) := fun p => by have := pick_length E.length p; omega
    have HNET : Hid ((netL E T).length < 4398046511104 ∧ ∀ i, i < (netL E T).length → ((netL E T).getD i []).length < 4398046511104) := ⟨by rw [netL_length]; omega, fun i hi => by have := netL_row E T i hi; omega⟩
    go_wp2_with fail
    replace HL := Lib.hid (HL.out.keep (below_drew (Below.refl _ _)))
    have d0 := blkc HL.out.bf 0
    have d1 := blkc HL.out.bf 1
    have e0 := blkc HL.out.bx 0
    have e1 := blkc HL.out.bx 1
    change _ = some (Value.slice A0 E.length c0) at d0
    change _ = some (Value.slice A1 T.length c1) at d1
    change _ = some (Value.slice A0 E.length c0) at e0
    change _ = some (Value.slice A2 T.length c2) at e1
    go_region_held3 (fun w' => w'.cell? ⟨w.heap.size, 0, none⟩ = some (.slice A0 E.length c0) ∧ w'.cell? ⟨w.heap.size, 1, none⟩ = some (.slice A1 T.length c1) ∧ w'.cell? ⟨w3.heap.size, 0, none⟩ = some (.slice A0 E.length c0) ∧ w'.cell? ⟨w3.heap.size, 1, none⟩ = some (.slice A2 T.length c2))
      (go_keep)
      (first
        | (go_at_call 15; refine (l_blocks HL.out hE hT a).mono ?_; rintro e wx ⟨Aa, ca, rfl, hc, hC, hb⟩; have HA := Lib.hid (And.intro hc hC); replace HL := Lib.hid (HL.out.keep hb); replace d0 := blkc HL.out.bf 0; replace d1 := blkc HL.out.bf 1; replace e0 := blkc HL.out.bx 0; replace e1 := blkc HL.out.bx 1; change _ = some (Value.slice A0 E.length c0) at d0; change _ = some (Value.slice A1 T.length c1) at d1; change _ = some (Value.slice A0 E.length c0) at e0; change _ = some (Value.slice A2 T.length c2) at e1; clear hb hc hC)
        | (go_at_call 16; refine (r_blocks HL.out hE hT a).mono ?_; rintro e wx ⟨Ab, cb, rfl, hc, hC, hb⟩; have HB := Lib.hid (And.intro hc hC); replace HA := Lib.hid (And.intro HA.out.1 (Kd.C_below HA.out.2 hb)); replace HL := Lib.hid (HL.out.keep hb); replace d0 := blkc HL.out.bf 0; replace d1 := blkc HL.out.bf 1; replace e0 := blkc HL.out.bx 0; replace e1 := blkc HL.out.bx 1; change _ = some (Value.slice A0 E.length c0) at d0; change _ = some (Value.slice A1 T.length c1) at d1; change _ = some (Value.slice A0 E.length c0) at e0; change _ = some (Value.slice A2 T.length c2) at e1; clear hb hc hC)
        | (go_at_call 17; refine (l_calls HL.out hE hT a).mono ?_; rintro e wx ⟨Aa, ca, rfl, hc, hC, hb⟩; have HA := Lib.hid (And.intro hc hC); replace HL := Lib.hid (HL.out.keep hb); replace d0 := blkc HL.out.bf 0; replace d1 := blkc HL.out.bf 1; replace e0 := blkc HL.out.bx 0; replace e1 := blkc HL.out.bx 1; change _ = some (Value.slice A0 E.length c0) at d0; change _ = some (Value.slice A1 T.length c1) at d1; change _ = some (Value.slice A0 E.length c0) at e0; change _ = some (Value.slice A2 T.length c2) at e1; clear hb hc hC)
        | (go_at_call 18; refine (r_calls HL.out hE hT a).mono ?_; rintro e wx ⟨Ab, cb, rfl, hc, hC, hb⟩; have HB := Lib.hid (And.intro hc hC); replace HA := Lib.hid (And.intro HA.out.1 (Kd.C_below HA.out.2 hb)); replace HL := Lib.hid (HL.out.keep hb); replace d0 := blkc HL.out.bf 0; replace d1 := blkc HL.out.bf 1; replace e0 := blkc HL.out.bx 0; replace e1 := blkc HL.out.bx 1; change _ = some (Value.slice A0 E.length c0) at d0; change _ = some (Value.slice A1 T.length c1) at d1; change _ = some (Value.slice A0 E.length c0) at e0; change _ = some (Value.slice A2 T.length c2) at e1; clear hb hc hC)
        | (go_at_call 20; refine (l_net HL.out hE hT).mono ?_; rintro e wx ⟨Aa, ca, rfl, hc, hC, hb⟩; have HA := Lib.hid (And.intro hc hC); replace HL := Lib.hid (HL.out.keep hb); replace d0 := blkc HL.out.bf 0; replace d1 := blkc HL.out.bf 1; replace e0 := blkc HL.out.bx 0; replace e1 := blkc HL.out.bx 1; change _ = some (Value.slice A0 E.length c0) at d0; change _ = some (Value.slice A1 T.length c1) at d1; change _ = some (Value.slice A0 E.length c0) at e0; change _ = some (Value.slice A2 T.length c2) at e1; clear hb hc hC)
        | (go_at_call 21; refine (r_net HL.out hE hT).mono ?_; rintro e wx ⟨Ab, cb, rfl, hc, hC, hb⟩; have HB := Lib.hid (And.intro hc hC); replace HA := Lib.hid (And.intro HA.out.1 (Kd.C_below HA.out.2 hb)); replace HL := Lib.hid (HL.out.keep hb); replace d0 := blkc HL.out.bf 0; replace d1 := blkc HL.out.bf 1; replace e0 := blkc HL.out.bx 0; replace e1 := blkc HL.out.bx 1; change _ = some (Value.slice A0 E.length c0) at d0; change _ = some (Value.slice A1 T.length c1) at d1; change _ = some (Value.slice A0 E.length c0) at e0; change _ = some (Value.slice A2 T.length c2) at e1; clear hb hc hC)
        | (go_at_call 22; refine (l_called HL.out hE hT).mono ?_; rintro e wx ⟨Aa, ca, rfl, hc, hC, hb⟩; have HA := Lib.hid (And.intro hc hC); replace HL := Lib.hid (HL.out.keep hb); replace d0 := blkc HL.out.bf 0; replace d1 := blkc HL.out.bf 1; replace e0 := blkc HL.out.bx 0; replace e1 := blkc HL.out.bx 1; change _ = some (Value.slice A0 E.length c0) at d0; change _ = some (Value.slice A1 T.length c1) at d1; change _ = some (Value.slice A0 E.length c0) at e0; change _ = some (Value.slice A2 T.length c2) at e1; clear hb hc hC)
        | (go_at_call 23; refine (r_called HL.out hE hT).mono ?_; rintro e wx ⟨Ab, cb, rfl, hc, hC, hb⟩; have HB := Lib.hid (And.intro hc hC); replace HA := Lib.hid (And.intro HA.out.1 (Kd.C_below HA.out.2 hb)); replace HL := Lib.hid (HL.out.keep hb); replace d0 := blkc HL.out.bf 0; replace d1 := blkc HL.out.bf 1; replace e0 := blkc HL.out.bx 0; replace e1 := blkc HL.out.bx 1; change _ = some (Value.slice A0 E.length c0) at d0; change _ = some (Value.slice A1 T.length c1) at d1; change _ = some (Value.slice A0 E.length c0) at e0; change _ = some (Value.slice A2 T.length c2) at e1; clear hb hc hC)
        | (go_at_call 24; refine (l_matters HL.out hE hT).mono ?_; rintro e wx ⟨Aa, ca, rfl, hc, hC, hb⟩; have HA := Lib.hid (And.intro hc hC); replace HL := Lib.hid (HL.out.keep hb); replace d0 := blkc HL.out.bf 0; replace d1 := blkc HL.out.bf 1; replace e0 := blkc HL.out.bx 0; replace e1 := blkc HL.out.bx 1; change _ = some (Value.slice A0 E.length c0) at d0; change _ = some (Value.slice A1 T.length c1) at d1; change _ = some (Value.slice A0 E.length c0) at e0; change _ = some (Value.slice A2 T.length c2) at e1; clear hb hc hC)
        | (go_at_call 25; refine (r_matters HL.out hE hT).mono ?_; rintro e wx ⟨Ab, cb, rfl, hc, hC, hb⟩; have HB := Lib.hid (And.intro hc hC); replace HA := Lib.hid (And.intro HA.out.1 (Kd.C_below HA.out.2 hb)); replace HL := Lib.hid (HL.out.keep hb); replace d0 := blkc HL.out.bf 0; replace d1 := blkc HL.out.bf 1; replace e0 := blkc HL.out.bx 0; replace e1 := blkc HL.out.bx 1; change _ = some (Value.slice A0 E.length c0) at d0; change _ = some (Value.slice A1 T.length c1) at d1; change _ = some (Value.slice A0 E.length c0) at e0; change _ = some (Value.slice A2 T.length c2) at e1; clear hb hc hC)
        | (go_at_call 26; refine (l_excluded HL.out hE hT).mono ?_; rintro e wx ⟨Aa, ca, rfl, hc, hC, hb⟩; have HA := Lib.hid (And.intro hc hC); replace HL := Lib.hid (HL.out.keep hb); replace d0 := blkc HL.out.bf 0; replace d1 := blkc HL.out.bf 1; replace e0 := blkc HL.out.bx 0; replace e1 := blkc HL.out.bx 1; change _ = some (Value.slice A0 E.length c0) at d0; change _ = some (Value.slice A1 T.length c1) at d1; change _ = some (Value.slice A0 E.length c0) at e0; change _ = some (Value.slice A2 T.length c2) at e1; clear hb hc hC)
        | (go_at_call 27; refine (r_excluded HL.out hE hT).mono ?_; rintro e wx ⟨Ab, cb, rfl, hc, hC, hb⟩; have HB := Lib.hid (And.intro hc hC); replace HA := Lib.hid (And.intro HA.out.1 (Kd.C_below HA.out.2 hb)); replace HL := Lib.hid (HL.out.keep hb); replace d0 := blkc HL.out.bf 0; replace d1 := blkc HL.out.bf 1; replace e0 := blkc HL.out.bx 0; replace e1 := blkc HL.out.bx 1; change _ = some (Value.slice A0 E.length c0) at d0; change _ = some (Value.slice A1 T.length c1) at d1; change _ = some (Value.slice A0 E.length c0) at e0; change _ = some (Value.slice A2 T.length c2) at e1; clear hb hc hC)
        | (go_at_call 14; refine (same_of _ _ _ _ _ _ HA.out.2 HA.out.1 HB.out.2 HB.out.1 (HLEN.out _)).mono ?_; rintro e wx ⟨rfl, hb⟩; replace HL := Lib.hid (HL.out.keep hb); replace d0 := blkc HL.out.bf 0; replace d1 := blkc HL.out.bf 1; replace e0 := blkc HL.out.bx 0; replace e1 := blkc HL.out.bx 1; change _ = some (Value.slice A0 E.length c0) at d0; change _ = some (Value.slice A1 T.length c1) at d1; change _ = some (Value.slice A0 E.length c0) at e0; change _ = some (Value.slice A2 T.length c2) at e1; clear hb HA HB)
        | (go_at_call 19; refine (all_of _ _ _ _ _ _ HA.out.2 HA.out.1 HB.out.2 HB.out.1 HNET.out.1 HNET.out.2).mono ?_; rintro e wx ⟨rfl, hb⟩; replace HL := Lib.hid (HL.out.keep hb); replace d0 := blkc HL.out.bf 0; replace d1 := blkc HL.out.bf 1; replace e0 := blkc HL.out.bx 0; replace e1 := blkc HL.out.bx 1; change _ = some (Value.slice A0 E.length c0) at d0; change _ = some (Value.slice A1 T.length c1) at d1; change _ = some (Value.slice A0 E.length c0) at e0; change _ = some (Value.slice A2 T.length c2) at e1; clear hb HA HB)
        | (go_at_call 28; refine (l_delay HL.out hE hT a).mono ?_; rintro e wx ⟨rfl, hb⟩; replace HL := Lib.hid (HL.out.keep hb); replace d0 := blkc HL.out.bf 0; replace d1 := blkc HL.out.bf 1; replace e0 := blkc HL.out.bx 0; replace e1 := blkc HL.out.bx 1; change _ = some (Value.slice A0 E.length c0) at d0; change _ = some (Value.slice A1 T.length c1) at d1; change _ = some (Value.slice A0 E.length c0) at e0; change _ = some (Value.slice A2 T.length c2) at e1; clear hb)
        | (go_at_call 29; refine (r_delay HL.out hE hT a).mono ?_; rintro e wx ⟨rfl, hb⟩; replace HL := Lib.hid (HL.out.keep hb); replace d0 := blkc HL.out.bf 0; replace d1 := blkc HL.out.bf 1; replace e0 := blkc HL.out.bx 0; replace e1 := blkc HL.out.bx 1; change _ = some (Value.slice A0 E.length c0) at d0; change _ = some (Value.slice A1 T.length c1) at d1; change _ = some (Value.slice A0 E.length c0) at e0; change _ = some (Value.slice A2 T.length c2) at e1; clear hb))
    go_wp2_with fail
    go_ret
    exact ⟨rfl, HL.out.on⟩
end Go.Proofs.Ytofgaeiihclokaa.P
