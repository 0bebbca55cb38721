/- needs.Net: of each event what it needs; and an array of rows that a function lays and fills. No conditions beyond those typed. -/
import Derived.Test.YtofgaeiihclokaaNedD
namespace Go.Proofs.Ytofgaeiihclokaa.P
open Go.RowKit Go.Shelf Go.Lib Go.Sort Go.Maps Go.Proofs.YtofgaeiihclokaaW.PrintWords Go.Proofs.YtofgaeiihclokaaW.PrintLast Go.Proofs.YtofgaeiihclokaaW.PrintMore
set_option linter.unusedVariables false
set_option linter.unusedSimpArgs false

/-- An array of rows of the call's own: block G holds the values vs; these are rows of the call's own, no two in one block. -/
structure Outer (w : World) (base G n : Nat) (vs : Nat → Value) (rows : Nat → List Int) : Prop where
  ge : base ≤ G
  blk : ∃ cur, w.heap[G]? = some (.cells cur 33 (0, 0)) ∧ cur.size = n ∧ ∀ j, j < n → cur[j]? = some (vs j)
  row : ∀ j, j < n → w.ownsRow base 3 1 (vs j) (rows j).length ((rows j).map (Value.int .i64))
  apart : ∀ i j b, i < n → j < n → (vs i).ownBlock = some b → (vs j).ownBlock = some b → i = j

theorem Outer.lt {w : World} {base G n : Nat} {vs : Nat → Value} {rows : Nat → List Int} (h : Outer w base G n vs rows) : G < w.heap.size := by
  obtain ⟨cur, h1, _⟩ := h.blk
  exact (Array.getElem?_eq_some_iff.1 h1).1
theorem Outer.ne {w : World} {base G n : Nat} {vs : Nat → Value} {rows : Nat → List Int} (h : Outer w base G n vs rows) {j b : Nat} (hj : j < n) (hb : (vs j).ownBlock = some b) : b ≠ G := by
  rintro rfl
  obtain ⟨cur, h1, _⟩ := h.blk
  obtain ⟨cells, h2⟩ := own_typed (h.row j hj) b hb
  rw [h1] at h2
  injection h2 with h2
  injection h2 with _ h2
  exact absurd h2 (by decide)
theorem Outer.keep {w w' : World} {base G n : Nat} {vs : Nat → Value} {rows : Nat → List Int} (h : Outer w base G n vs rows) (hb : Below w.heap.size w w') : Outer w' base G n vs rows where
  ge := h.ge
  blk := by
    obtain ⟨cur, h1, h2⟩ := h.blk
    exact ⟨cur, (hb.block _ h.lt).trans h1, h2⟩
  row := fun j hj => own_move (h.row j hj) (fun k hk => hb.block k (own_lt (h.row j hj) k hk))
  apart := h.apart
theorem Outer.cell {w : World} {base G n : Nat} {vs : Nat → Value} {rows : Nat → List Int} (h : Outer w base G n vs rows) {j : Nat} (hj : j < n) : w.cell? ⟨G, j, none⟩ = some (vs j) := by
  obtain ⟨cur, h1, _, h2⟩ := h.blk
  exact (blkc h1 j).trans (h2 j hj)
theorem Outer.thaw {w : World} {base G n : Nat} {vs : Nat → Value} {rows : Nat → List Int} (h : Outer w base G n vs rows) (j : Nat) : w.frozen? ⟨G, j, none⟩ = false := by
  obtain ⟨cur, h1, _⟩ := h.blk
  simp [World.frozen?, h1]
theorem Outer.made (w : World) (base n : Nat) (hb : base ≤ w.heap.size) : Outer (w.alloc (.cells (madeCells #[.slice none 0 0] n) 33)) base w.heap.size n (fun _ => .slice none 0 0) (fun _ => []) where
  ge := hb
  blk := ⟨_, blk_new w _, by simp [size_madeCells], fun j hj => by simp [madeCells, hj, Nat.mod_one]⟩
  row := fun j hj => own_nil _ _ _ _
  apart := fun i j b _ _ h _ => by simp [Value.ownBlock] at h
/-- A row is stored. -/
theorem Outer.store {w : World} {base G n : Nat} {vs : Nat → Value} {rows : Nat → List Int} (h : Outer w base G n vs rows) {k : Nat} (hk : k < n) (v : Value) (zs : List Int) (ho : w.ownsRow base 3 1 v zs.length (zs.map (Value.int .i64)))
    (hn : ∀ j b, j < n → j ≠ k → (vs j).ownBlock = some b → v.ownBlock ≠ some b) : Outer (w.setCell ⟨G, k, none⟩ v) base G n (fun j => if j = k then v else vs j) (fun j => if j = k then zs else rows j) := by
  obtain ⟨cur, h1, h2, h3⟩ := h.blk
  have hset : (w.setCell ⟨G, k, none⟩ v).heap[G]? = some (.cells (cur.setIfInBounds k v) 33 (0, 0)) := by
    simp [World.setCell, Array.getElem?_modify, h1]
  have hfar : ∀ b, b ≠ G → (w.setCell ⟨G, k, none⟩ v).heap[b]? = w.heap[b]? := fun b hb => Below.heap_setCell w ⟨G, k, none⟩ v b hb
  have hvG : ∀ b, v.ownBlock = some b → b ≠ G := by
    rintro b hb rfl
    obtain ⟨cells, h4⟩ := own_typed ho b hb
    rw [h1] at h4
    injection h4 with h4
    injection h4 with _ h4
    exact absurd h4 (by decide)
  refine ⟨h.ge, ⟨_, hset, by simpa using h2, fun j hj => ?_⟩, fun j hj => ?_, fun i j b hi hj hbi hbj => ?_⟩
  · by_cases e : j = k
    · subst e
      simp [h2, hj]
    · rw [if_neg e, ← h3 j hj]
      simp [Array.getElem?_setIfInBounds, Ne.symm e]
  · by_cases e : j = k
    · simp only [e, if_true]
      exact own_move ho (fun b hb => hfar b (hvG b hb))
    · simp only [e, if_false]
      exact own_move (h.row j hj) (fun b hb => hfar b (h.ne hj hb))
  · by_cases ei : i = k
    · by_cases ej : j = k
      · rw [ei, ej]
      · simp only [ei, if_true] at hbi
        simp only [ej, if_false] at hbj
        exact absurd hbi (hn j b hj ej hbj)
    · by_cases ej : j = k
      · simp only [ei, if_false] at hbi
        simp only [ej, if_true] at hbj
        exact absurd hbj (hn i b hi ei hbi)
      · simp only [ei, if_false] at hbi
        simp only [ej, if_false] at hbj
        exact h.apart i j b hi hj hbi hbj
theorem Outer.congr {w : World} {base G n : Nat} {vs vs' : Nat → Value} {rows rows' : Nat → List Int} (h : Outer w base G n vs rows) (hv : ∀ j, j < n → vs' j = vs j) (hr : ∀ j, j < n → rows' j = rows j) : Outer w base G n vs' rows' := by
  obtain ⟨cur, h1, h2, h3⟩ := h.blk
  refine ⟨h.ge, ⟨cur, h1, h2, fun j hj => by rw [hv j hj]; exact h3 j hj⟩, fun j hj => by rw [hv j hj, hr j hj]; exact h.row j hj, fun i j b hi hj h4 h5 => ?_⟩
  rw [hv i hi] at h4
  rw [hv j hj] at h5
  exact h.apart i j b hi hj h4 h5
/-- As the print's word for rows that lead to no block twice. -/
theorem Outer.toS {w : World} {base G n : Nat} {vs : Nat → Value} {rows : Nat → List Int} (h : Outer w base G n vs rows) (hn : n ≤ 9223372036854775807) :
    Kd.S (Kd.slice 3 (Kd.int .i64)) 33 w base (fun _ => True) (.slice (some ⟨G, 0, none⟩) n n) ((List.range n).map rows) := by
  classical
  obtain ⟨cur, h1, h2, h3⟩ := h.blk
  refine ⟨fun b => if e : ∃ j, j < n ∧ (vs j).ownBlock = some b then e.choose else 0, fun _ _ => trivial, (List.range n).map vs, ?_, by simp [Kd.tag, Kd.slice], ?_⟩
  · refine ⟨by simp [Kd.tag, Kd.slice], .inr ⟨G, n, cur, by simp, h.ge, h1, by simp, by simpa [maxLen] using hn, by simpa [Kd.tag, Kd.slice] using h2, ?_⟩⟩
    apply List.ext_getElem?
    intro j
    by_cases hj : j < n
    · have := h3 j hj
      simp only [Kd.tag, Kd.slice, List.length_zipIdx, List.length_map, List.length_range, Nat.mul_one, List.getElem?_take, hj, if_true, Array.getElem?_toList, this, List.getElem?_map, List.getElem?_range hj, Option.map_some]
    · rw [List.getElem?_eq_none (by simp [Kd.tag, Kd.slice]; omega), List.getElem?_eq_none (by simp; omega)]
  · intro j p hp
    rw [List.getElem?_zipIdx] at hp
    by_cases hj : j < n
    · simp only [List.getElem?_map, List.getElem?_range hj, Option.map_some, Nat.zero_add] at hp
      injection hp with hp
      subst hp
      refine ⟨vs j, ?_, Kd.R_of_own (h.row j hj) (fun b hb => ?_)⟩
      · simp only [Kd.tag, Kd.slice, Nat.mul_one]
        rw [List.drop_eq_getElem_cons (by simpa using hj)]
        simp
      · refine ⟨⟨trivial, ?_⟩, ?_⟩
        · simp only [Value.ownBlock, ne_eq, Option.some.injEq]
          exact h.ne hj hb
        · have e : ∃ j, j < n ∧ (vs j).ownBlock = some b := ⟨j, hj, hb⟩
          show (if e : ∃ j, j < n ∧ (vs j).ownBlock = some b then e.choose else 0) = j
          rw [dif_pos e]
          exact h.apart _ _ b e.choose_spec.1 hj e.choose_spec.2 hb
    · rw [List.getElem?_eq_none (by simp; omega)] at hp
      cases hp

/-- Net, within its loop. -/
structure NIn (w : World) (A0 A1 : Option Addr) (n c0 m c1 : Nat) (rows : Nat → List Int) (k : Nat) (wr : World) : Prop where
  box : wr.heap[w.heap.size]? = some (.cells #[.slice A0 n c0, .slice A1 m c1] 25 (0, 0))
  on : Below w.heap.size w wr
  out : ∃ vs, Outer wr w.heap.size (w.heap.size + 1) n vs (fun j => if j < k then rows j else [])

theorem NIn.keep {w wr wq : World} {A0 A1 : Option Addr} {n c0 m c1 : Nat} {rows : Nat → List Int} {k : Nat} (h : NIn w A0 A1 n c0 m c1 rows k wr) (hb : Below wr.heap.size wr wq) : NIn w A0 A1 n c0 m c1 rows k wq where
  box := (hb.block _ (by obtain ⟨vs, ho⟩ := h.out; have := ho.lt; omega)).trans h.box
  on := h.on.trans (hb.mono h.on.size)
  out := by
    obtain ⟨vs, ho⟩ := h.out
    exact ⟨vs, ho.keep hb⟩

theorem info_ints : (Try.prog.info? 33).map (fun i => (i.zero, i.size, i.bytes)) = some (some (.slice none 0 0), 1, 24) := by kernel_rfl
set_option maxRecDepth 100000 in
theorem needs_Net.calls (A0_0 : Option Addr) (c0_0 : Nat) (l0_0 : List (S68)) (A0_1 : Option Addr) (c0_1 : Nat) (l0_1 : List (S48)) (r : List (List Int)) (w : World) (hr0_0 : Kd.C k68 w A0_0 l0_0.length l0_0) (hc0_0 : l0_0.length ≤ c0_0) (hr0_1 : Kd.C k48 w A0_1 l0_1.length l0_1) (hc0_1 : l0_1.length ≤ c0_1) (h : needs_Net.f l0_0 l0_1 = some r) :
    Calls Try.prog 20 #[.agg #[.slice A0_0 l0_0.length c0_0, .slice A0_1 l0_1.length c0_1]] w fun e w' => ∃ v0_ : Value, e = .returned (v0_) ∧ Kd.S (Kd.slice 3 (Kd.int .i64)) 33 w' w.heap.size (fun _ => True) v0_ r ∧ Below w.heap.size w w' := by
  unfold needs_Net.f at h
  split at h
  · rename_i hl
    obtain ⟨hl0, hl1⟩ := hl
    injection h with h
    obtain ⟨rows, hrows⟩ : ∃ rows : Nat → List Int, rows = fun (i : Nat) => Lib.compact ((tiesOf l0_0.length l0_1 (tellB (i : Int)) ++ tiesOf l0_0.length l0_1 (tellC (i : Int))).mergeSort leI) := ⟨_, rfl⟩
    have HRES : Hid (r = (List.range l0_0.length).map rows) := by show _ = _; rw [← h, hrows]
    have HB := Lib.hid (fun (i : Nat) W (hW : Below w.heap.size w W) => needs_Blocks.calls A0_0 c0_0 l0_0 A0_1 c0_1 l0_1 (i : Int) (tiesOf l0_0.length l0_1 (tellB (i : Int))) W (Kd.C_below hr0_0 hW) hc0_0 (Kd.C_below hr0_1 hW) hc0_1 (by unfold needs_Blocks.f; rw [if_pos (by omega)]))
    have HC := Lib.hid (fun (i : Nat) W (hW : Below w.heap.size w W) => needs_Calls.calls A0_0 c0_0 l0_0 A0_1 c0_1 l0_1 (i : Int) (tiesOf l0_0.length l0_1 (tellC (i : Int))) W (Kd.C_below hr0_0 hW) hc0_0 (Kd.C_below hr0_1 hW) hc0_1 (by unfold needs_Calls.f; rw [if_pos (by omega)]))
    have hlen : ∀ tell, (tiesOf l0_0.length l0_1 tell).length ≤ l0_0.length := fun tell => pick_length _ _
    have HJ := Lib.hid (fun (i : Nat) (A2 A3 : Option Addr) (c2 c3 : Nat) W (h2 : Kd.C (Kd.int .i64) W A2 (tiesOf l0_0.length l0_1 (tellB (i : Int))).length (tiesOf l0_0.length l0_1 (tellB (i : Int)))) (hc2 : (tiesOf l0_0.length l0_1 (tellB (i : Int))).length ≤ c2) (h3 : Kd.C (Kd.int .i64) W A3 (tiesOf l0_0.length l0_1 (tellC (i : Int))).length (tiesOf l0_0.length l0_1 (tellC (i : Int)))) (hc3 : (tiesOf l0_0.length l0_1 (tellC (i : Int))).length ≤ c3) =>
      needs_joined_int.calls A2 c2 _ A3 c3 _ (rows i) W h2 hc2 h3 hc3 (by have h4 := hlen (tellB (i : Int)); have h5 := hlen (tellC (i : Int)); unfold needs_joined_int.f; rw [if_pos (by omega), hrows]))
    obtain ⟨n, hn⟩ : ∃ n, n = l0_0.length := ⟨_, rfl⟩
    obtain ⟨m, hm⟩ : ∃ m, m = l0_1.length := ⟨_, rfl⟩
    rw [← hn, ← hm] at HB HC
    rw [← hn] at HJ HRES hl0
    have hmk : ∀ W : World, (Instr.makeSlice 38 (.int .i64 (n : Int)) (.int .i64 (n : Int))).run Try.prog W = .ok (.slice (some ⟨W.heap.size, 0, none⟩) n n) (W.alloc (.cells (madeCells #[.slice none 0 0] n) 33)) := fun W => run_make_row' 38 33 (.slice none 0 0) 24 Try.underlying38 info_ints rfl .i64 .i64 n (by omega) (by omega) W
    rw [← hn, ← hm]
    have HI : Hid (NIn w A0_0 A0_1 n c0_0 m c0_1 rows 0 ((w.alloc (.cells #[.slice A0_0 n c0_0, .slice A0_1 m c0_1] 25)).alloc (.cells (madeCells #[.slice none 0 0] n) 33))) := by
      refine ⟨(Below.heap_alloc _ _ w.heap.size (by simp)).trans (blk_new w _), ((Below.refl w.heap.size w).alloc (Nat.le_refl _) _).alloc (by simp) _, fun _ => .slice none 0 0, ?_⟩
      have := Outer.made (w.alloc (.cells #[.slice A0_0 n c0_0, .slice A0_1 m c0_1] 25)) w.heap.size n (by simp)
      simpa using this
    clear hrows h hr0_0 hr0_1 hc0_0 hc0_1 hl1 hn hm hlen
    go_enter Try.func20, Try.ntmps20
    go_wp2_with fail
    go_loopw [4, 11] (fun _ i wr => ∃ k : Nat, k ≤ n ∧ i = .int .i64 (k : Int) ∧ Hid (NIn w A0_0 A0_1 n c0_0 m c0_1 rows k wr)) (fun _ i _ => n - (intOf i).toNat)
    case atStart => exact ⟨0, Nat.zero_le _, rfl, HI⟩
    case round =>
      obtain ⟨k, hkm, rfl, HK⟩ := hrel
      by_cases hk : k < n
      · have hc1k : (k : Int) < (n : Int) := by omega
        have hk0 : (0 : Int) ≤ (k : Int) := by omega
        have b0 := blkc HK.out.box 0
        have b1 := blkc HK.out.box 1
        change _ = some (Value.slice A0_0 n c0_0) at b0
        change _ = some (Value.slice A0_1 m c0_1) at b1
        go_upto_region 5 with (fail)
        have HK1 := Lib.hid (HK.out.keep (below_drew (Below.refl wr.heap.size wr)))
        go_region_held3 (fun w' => w'.cell? ⟨w.heap.size, 0, none⟩ = some (.slice A0_0 n c0_0) ∧ w'.cell? ⟨w.heap.size, 1, none⟩ = some (.slice A0_1 m c0_1))
          (go_keep)
          (first
            | (go_at_call 15; refine (HB.out k _ HK1.out.on).mono ?_; rintro e w2 ⟨v2, rfl, hr2, hb2⟩; obtain ⟨A2, c2, rfl, hc2, hC2⟩ := Kd.R_reads hr2; have HK2 := Lib.hid (HK1.out.keep hb2); have d0 := blkc HK2.out.box 0; have d1 := blkc HK2.out.box 1; change _ = some (Value.slice A0_0 n c0_0) at d0; change _ = some (Value.slice A0_1 m c0_1) at d1; have HC2 := Lib.hid (And.intro hc2 hC2); clear hr2 hb2 hc2 hC2 HK1)
            | (go_at_call 17; refine (HC.out k _ HK2.out.on).mono ?_; rintro e w3 ⟨v3, rfl, hr3, hb3⟩; obtain ⟨A3, c3, rfl, hc3, hC3⟩ := Kd.R_reads hr3; have HK3 := Lib.hid (HK2.out.keep hb3); have d0 := blkc HK3.out.box 0; have d1 := blkc HK3.out.box 1; change _ = some (Value.slice A0_0 n c0_0) at d0; change _ = some (Value.slice A0_1 m c0_1) at d1; have HJ3 := Lib.hid (HJ.out k A2 A3 c2 c3 _ (Kd.C_below HC2.out.2 hb3) HC2.out.1 hC3 hc3); clear hr3 hb3 hc3 hC3 HC2)
            | (go_at_call 48; refine (HJ3.out).mono ?_; rintro e w4 ⟨v4, rfl, hr4, hb4⟩; obtain ⟨A4, c4, rfl⟩ := Kd.R_slice hr4; have HK4 := Lib.hid (HK3.out.keep hb4); have d0 := blkc HK4.out.box 0; have d1 := blkc HK4.out.box 1; change _ = some (Value.slice A0_0 n c0_0) at d0; change _ = some (Value.slice A0_1 m c0_1) at d1; obtain ⟨vs, hout3⟩ := HK3.out.out; have HLT := Lib.hid (fun (j b : Nat) (hj : j < n) (hb : (vs j).ownBlock = some b) => own_lt (hout3.row j hj) b hb); have hout := hout3.keep hb4; clear hout3; have hcl := hout.cell hk; have hfz := hout.thaw k; have HOUT := Lib.hid hout; have HR4 := Lib.hid hr4; have HSZ := Lib.hid hb4.size; clear hr4 hb4 HJ3 hout))
        have hwk : IntKind.i64.wrap ((k : Int) + 1) = (k : Int) + 1 := IntWalk.i64_in _ (by omega)
        go_wp2_with fail
        go_roundw
        case rel =>
          have ho4 := Kd.own_of_R HR4.out
          have hst := HOUT.out.store hk _ (rows k) (own_weaken ho4 HK3.out.on.size) (fun j b hj _ hb hb4 => by have h1 := HLT.out j b hj hb; have h2 := own_base ho4 b hb4; omega)
          refine ⟨k + 1, by omega, rfl, ⟨?_, below_set HK4.out.on (by show w.heap.size ≤ w.heap.size + 1; omega), _, hst.congr (fun _ _ => rfl) (fun j hj => ?_)⟩⟩
          · exact (Below.heap_setCell w4 ⟨w.heap.size + 1, k, none⟩ _ w.heap.size (by show w.heap.size ≠ w.heap.size + 1; omega)).trans HK4.out.box
          · show (if j < k + 1 then rows j else []) = if j = k then rows k else if j < k then rows j else []
            by_cases e : j = k
            · subst e; simp
            · by_cases e2 : j < k
              · rw [if_pos (by omega), if_neg e, if_pos e2]
              · rw [if_neg (by omega), if_neg e, if_neg e2]
        case measure => simp [intOf]; omega
      · obtain rfl : k = n := by omega
        have hc1k : ¬ ((k : Int) < (k : Int)) := by omega
        go_wp2_with fail
        go_ret
        refine ⟨_, rfl, ?_, HK.out.on⟩
        obtain ⟨vs, hout⟩ := HK.out.out
        have := (hout.congr (vs' := vs) (rows' := rows) (fun _ _ => rfl) (fun j hj => by rw [if_pos hj])).toS (by omega)
        rw [HRES.out]
        exact this
  · cases h
end Go.Proofs.Ytofgaeiihclokaa.P
