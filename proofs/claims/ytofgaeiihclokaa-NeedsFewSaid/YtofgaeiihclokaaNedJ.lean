/- needs.joined: two lists as one, each number once, rising; with slices.Grow and slices.Concat as they are met there. No conditions beyond those typed. -/
import Derived.Test.YtofgaeiihclokaaNedW
import Derived.IntWalk
namespace Go.Proofs.Ytofgaeiihclokaa.P
open Go.RowKit Go.Shelf Go.Lib Go.Sort Go.Proofs.YtofgaeiihclokaaW.PrintWords Go.Proofs.YtofgaeiihclokaaW.PrintLast Go.Proofs.YtofgaeiihclokaaW.PrintMore
set_option linter.unusedVariables false
set_option linter.unusedSimpArgs false

theorem info_int : (Try.prog.info? 3).map (fun i => (i.zero, i.size, i.bytes)) = some (some (.int .i64 0), 1, 8) := by kernel_rfl
set_option maxRecDepth 100000 in
/-- slices.Grow of nil: a slice of the call's own, of no element. -/
theorem grow_nil (n : Nat) (w : World) (hn : n < 17592186044416) :
    Calls Try.prog 79 #[.slice none 0 0, .int .i64 (n : Int)] w fun e w' => ∃ v, e = .returned v ∧ w'.ownsRow w.heap.size 3 1 v 0 [] ∧ Below w.heap.size w w' := by
  have h64 : wrap64 ((n : Int) - 0) = (n : Int) := by rw [Int.sub_zero]; exact IntWalk.wrap64_in _ (by omega)
  go_enter Try.func79, Try.ntmps79
  rcases Nat.eq_zero_or_pos n with rfl | hp
  · go_wp2_with fail
    go_ret
    exact ⟨_, rfl, own_nil _ _ _ _, Below.refl _ _⟩
  · have h1 : ¬ ((n : Int) < 0) := by omega
    have h2 : (n : Int) > 0 := by omega
    go_wp2_with (at_builtin; refine Kd.R_append_zeros (Kd.int .i64) w.heap.size rfl _ _ 33 3 3 (.int .i64 0) 8 rfl Try.underlying33 Try.underlying3 info_int rfl (by decide) (by decide) (.slice none 0 0) [] 0 (n : Int) (fun _ => True) rfl rfl rfl (fun _ _ => trivial) (Kd.R_nil _ _ _ _ _) (by omega) (Below.refl _ _) (Nat.le_refl _) (by simp; omega) ?_; intro v1 w1 hr hb hg hat; have ho := Kd.own_of_R hr; rw [List.nil_append] at ho; clear hr hg hat; rcases ho.2 with ⟨_, h0⟩ | ⟨g, cap, cur, rfl, hbg, hg, hnc, hm, hs, ht⟩; exact absurd h0 (by simp; omega))
    go_ret
    refine ⟨_, rfl, ⟨rfl, .inr ⟨g, cap, cur, rfl, hbg, hg, Nat.zero_le _, hm, hs, by simp⟩⟩, hb⟩

set_option maxRecDepth 100000 in
/-- slices.Concat of two lists. -/
theorem concat_two (A0 A1 : Option Addr) (c0 c1 : Nat) (l0 l1 : List Int) (b : Nat) (w : World) (hb : w.heap[b]? = some (.cells #[.slice A0 l0.length c0, .slice A1 l1.length c1] 33 (0, 0)))
    (h0 : Kd.C (Kd.int .i64) w A0 l0.length l0) (h1 : Kd.C (Kd.int .i64) w A1 l1.length l1) (hl : l0.length + l1.length < 17592186044416) :
    Calls Try.prog 69 #[.slice (some ⟨b, 0, none⟩) 2 2] w fun e w' => ∃ v, e = .returned v ∧ w'.ownsRow w.heap.size 3 1 v (l0 ++ l1).length ((l0 ++ l1).map (Value.int .i64)) ∧ Below w.heap.size w w' := by
  obtain ⟨m0, hm0⟩ : ∃ m, m = l0.length := ⟨_, rfl⟩
  obtain ⟨m1, hm1⟩ : ∃ m, m = l1.length := ⟨_, rfl⟩
  rw [← hm0] at hb h0 hl
  rw [← hm1] at hb h1 hl
  have k0 : w.cell? ⟨b, 0, none⟩ = some (.slice A0 m0 c0) := by simp [World.cell?, hb]
  have k1 : w.cell? ⟨b, 1, none⟩ = some (.slice A1 m1 c1) := by simp [World.cell?, hb]
  have w0 : wrap64 (0 + (m0 : Int)) = (m0 : Int) := by rw [Int.zero_add]; exact IntWalk.wrap64_in _ (by omega)
  have w1 : wrap64 ((m0 : Int) + (m1 : Int)) = (m0 : Int) + (m1 : Int) := IntWalk.wrap64_in _ (by omega)
  have H0 := Lib.hid h0
  have H1 := Lib.hid h1
  have HB := Lib.hid hb
  have HM0 := Lib.hid hm0
  have HM1 := Lib.hid hm1
  have HG := Lib.hid (grow_nil (m0 + m1) w hl)
  rw [Int.natCast_add] at HG
  clear h0 h1 hb hm0 hm1
  go_enter Try.func69, Try.ntmps69
  go_wp2_with fail
  go_loopw [3, 5, 11] (fun s _ i wr => w = wr ∧ ((s = .int .i64 0 ∧ i = .int .i64 0) ∨ (s = .int .i64 (m0 : Int) ∧ i = .int .i64 1) ∨ (s = .int .i64 ((m0 : Int) + (m1 : Int)) ∧ i = .int .i64 2))) (fun _ _ i _ => 2 - (intOf i).toNat)
  case atStart => exact ⟨rfl, .inl ⟨rfl, rfl⟩⟩
  case round =>
    obtain ⟨rfl, hr⟩ := hrel
    rcases hr with ⟨rfl, rfl⟩ | ⟨rfl, rfl⟩ | ⟨rfl, rfl⟩
    · have n0 : ¬ ((m0 : Int) < 0) := by omega
      go_wp2_with fail
      go_roundw
      case rel => exact ⟨trivial, .inr (.inl ⟨rfl, rfl⟩)⟩
      case measure => simp [intOf]
    · have n0 : ¬ ((m0 : Int) + (m1 : Int) < 0) := by omega
      go_wp2_with fail
      go_roundw
      case rel => exact ⟨trivial, .inr (.inr ⟨rfl, rfl⟩)⟩
      case measure => simp [intOf]
    · go_wp2_with fail
      refine (HG.out).mono ?_
      rintro e w2 ⟨v2, rfl, ho2, hb2⟩
      have HI := Lib.hid (show (Kd.int .i64).R 3 w2 w.heap.size (fun _ => True) v2 [] ∧ Below w.heap.size w w2 from ⟨Kd.R_of_own (xs := []) ho2 (fun _ _ => trivial), hb2⟩)
      clear ho2 hb2
      have hbl : b < w.heap.size := by
        have := HB.out
        rcases Nat.lt_or_ge b w.heap.size with h' | h'
        · exact h'
        · rw [Array.getElem?_eq_none h'] at this; cases this
      have e8 : ∀ a : Nat, a < 17592186044416 → a * 8 ≤ 140737488355328 := fun a h => by omega
      go_wp2_with fail
      go_loopw [6, 8, 27] (fun v _ i wr => (i = .int .i64 0 ∧ Hid ((Kd.int .i64).R 3 wr w.heap.size (fun _ => True) v [] ∧ Below w.heap.size w wr)) ∨ (i = .int .i64 1 ∧ Hid ((Kd.int .i64).R 3 wr w.heap.size (fun _ => True) v l0 ∧ Below w.heap.size w wr)) ∨ (i = .int .i64 2 ∧ Hid ((Kd.int .i64).R 3 wr w.heap.size (fun _ => True) v (l0 ++ l1) ∧ Below w.heap.size w wr))) (fun _ _ i _ => 2 - (intOf i).toNat)
      case atStart => exact .inl ⟨rfl, HI⟩
      case round =>
        rcases hrel with ⟨rfl, HJ⟩ | ⟨rfl, HJ⟩ | ⟨rfl, HJ⟩
        · have k0' : wr.cell? ⟨b, 0, none⟩ = some (.slice A0 m0 c0) := (HJ.out.2.cell (p := ⟨b, 0, none⟩) hbl).trans k0
          go_wp2_with (at_builtin; refine Kd.R_append_row (Value.int .i64) 0 (h1 := fun _ => rfl) w.heap.size rfl _ _ 33 3 (.int .i64 0) 8 rfl Try.underlying33 info_int rfl (by decide) _ [] l0 A0 m0 c0 (fun _ => True) rfl rfl (fun _ _ => trivial) HJ.out.1 (Kd.C_below H0.out HJ.out.2) HJ.out.2 HJ.out.2.size (by rw [List.length_nil]; exact e8 _ (by omega)) ?_; intro v3 w3 hr3 hb3 hg3 hat3; have HK := Lib.hid (show (Kd.int .i64).R 3 w3 w.heap.size (fun _ => True) v3 l0 ∧ Below w.heap.size w w3 from ⟨hr3, hb3⟩); clear hr3 hb3 hg3 hat3)
          go_roundw
          case rel => exact .inr (.inl ⟨rfl, HK⟩)
          case measure => simp [intOf]
        · have k1' : wr.cell? ⟨b, 1, none⟩ = some (.slice A1 m1 c1) := (HJ.out.2.cell (p := ⟨b, 1, none⟩) hbl).trans k1
          go_wp2_with (at_builtin; refine Kd.R_append_row (Value.int .i64) 0 (h1 := fun _ => rfl) w.heap.size rfl _ _ 33 3 (.int .i64 0) 8 rfl Try.underlying33 info_int rfl (by decide) _ l0 l1 A1 m1 c1 (fun _ => True) rfl rfl (fun _ _ => trivial) HJ.out.1 (Kd.C_below H1.out HJ.out.2) HJ.out.2 HJ.out.2.size (e8 _ (by have := HM0.out; omega)) ?_; intro v3 w3 hr3 hb3 hg3 hat3; have HK := Lib.hid (show (Kd.int .i64).R 3 w3 w.heap.size (fun _ => True) v3 (l0 ++ l1) ∧ Below w.heap.size w w3 from ⟨hr3, hb3⟩); clear hr3 hb3 hg3 hat3)
          go_roundw
          case rel => exact .inr (.inr ⟨rfl, HK⟩)
          case measure => simp [intOf]
        · go_wp2_with fail
          go_ret
          exact ⟨_, rfl, Kd.own_of_R HJ.out.1, HJ.out.2⟩

/-- slices.Sort of a row of the call's own. -/
theorem sort_own (base : Nat) (v : Value) (zs : List Int) (w : World) (ho : w.ownsRow base 3 1 v zs.length (zs.map (Value.int .i64))) (hl : zs.length < 17592186044416) (hbase : base ≤ w.heap.size) :
    Calls Try.prog 61 #[v] w fun e w' => e = .returned (.tuple #[]) ∧ w'.ownsRow base 3 1 v (zs.mergeSort leI).length ((zs.mergeSort leI).map (Value.int .i64)) ∧ Below base w w' := by
  have hlen : (zs.mergeSort leI).length = zs.length := List.length_mergeSort zs
  by_cases hv : v = .slice none 0 0
  · subst hv
    have h0 : zs = [] := by
      rcases ho.2 with ⟨_, e⟩ | ⟨g, cap, cur, e, _⟩
      · exact List.length_eq_zero_iff.1 e
      · cases e
    subst h0
    refine Calls.mono (show Calls Try.prog 61 _ _ _ from AnyM.slices_Sort_int_none Try.sortI none 0 w) ?_
    rintro e w' ⟨rfl, rfl⟩
    exact ⟨rfl, by rw [List.mergeSort_nil]; exact own_nil _ _ _ _, Below.refl _ _⟩
  · obtain ⟨g, cap, rfl, hbg, hlt, hcap, hm, hzl, hH⟩ := holds_of_ownsRow ho hv
    refine Calls.mono (show Calls Try.prog 61 _ _ _ from AnyM.slices_Sort_int Try.sortI g 0 cap zs w hH hlt (by omega)) ?_
    rintro e w' ⟨rfl, n, os, rfl⟩
    refine ⟨rfl, ?_, (Below.refl base w).grown (grownBy_sorted_i _) hbase (fun j hj => by injection hj with hj; subst hj; exact hbg)⟩
    rcases ho.2 with ⟨h0, _⟩ | ⟨g', cap', cur, e0, hb, hg, hn, hm', hs, ht⟩
    · cases h0
    · injection e0 with e1 _ e3
      injection e1 with e1
      injection e1 with e1
      subst e1; subst e3
      rw [hlen]
      exact ownsRow_sorted_i hlen hbg hg hcap hm hs

/-- slices.Compact of a row of the call's own. -/
theorem compact_own (base : Nat) (v : Value) (zs : List Int) (w : World) (ho : w.ownsRow base 3 1 v zs.length (zs.map (Value.int .i64))) (hl : zs.length < 17592186044416) :
    Calls Try.prog 70 #[v] w fun e w' => ∃ v', e = .returned v' ∧ w'.ownsRow base 3 1 v' (Lib.compact zs).length ((Lib.compact zs).map (Value.int .i64)) ∧ Below base w w' := by
  by_cases hv : v = .slice none 0 0
  · subst hv
    have h0 : zs = [] := by
      rcases ho.2 with ⟨_, e⟩ | ⟨g, cap, cur, e, _⟩
      · exact List.length_eq_zero_iff.1 e
      · cases e
    subst h0
    refine (Try.slices_Compact_int_empty none 0 w).mono ?_
    rintro e w' ⟨rfl, rfl⟩
    exact ⟨_, rfl, own_nil _ _ _ _, Below.refl _ _⟩
  · obtain ⟨g, cap, rfl, hbg, hlt, hcap, hm, hzl, hH⟩ := holds_of_ownsRow ho hv
    have hle : (Lib.compact zs).length ≤ zs.length := by
      unfold Lib.compact Lib.compactUpTo
      rw [List.length_map]
      refine Nat.le_trans (List.length_filter_le _ _) ?_
      simp
    refine (Try.slices_Compact_int g 0 cap zs w hH (by omega) hcap).mono ?_
    rintro e w' ⟨rfl, q, rfl⟩
    refine ⟨_, rfl, ?_, below_putRow (Below.refl _ _) hbg⟩
    have := ownsRow_putRow (enc := Value.int .i64) (q := q) (k := (Lib.compact zs).length) (ys := Lib.compact zs ++ List.replicate (zs.length - (Lib.compact zs).length) 0) ho (by simp; omega) hle
    rw [List.take_left] at this
    exact this

set_option maxRecDepth 100000 in
theorem needs_joined_int.calls (A0 : Option Addr) (c0 : Nat) (l0 : List Int) (A1 : Option Addr) (c1 : Nat) (l1 : List Int) (r : List Int) (w : World) (hr0 : Kd.C (Kd.int .i64) w A0 l0.length l0) (hc0 : l0.length ≤ c0) (hr1 : Kd.C (Kd.int .i64) w A1 l1.length l1) (hc1 : l1.length ≤ c1) (h : needs_joined_int.f l0 l1 = some r) :
    Calls Try.prog 48 #[.slice A0 l0.length c0, .slice A1 l1.length c1] w fun e w' => ∃ v0_ : Value, e = .returned (v0_) ∧ Kd.R (Kd.int .i64) 3 w' w.heap.size (fun _ => True) v0_ r ∧ Below w.heap.size w w' := by
  unfold needs_joined_int.f at h
  split at h
  · rename_i hl
    injection h with h
    have HB0 : Below w.heap.size w (w.alloc (.cells #[.slice A0 l0.length c0, .slice A1 l1.length c1] 33)) := (Below.refl w.heap.size w).alloc (Nat.le_refl _) _
    have HC := Lib.hid (concat_two A0 A1 c0 c1 l0 l1 w.heap.size (w.alloc (.cells #[.slice A0 l0.length c0, .slice A1 l1.length c1] 33)) (blk_new w _) (Kd.C_below hr0 HB0) (Kd.C_below hr1 HB0) hl)
    have HBB := Lib.hid HB0
    have HL := Lib.hid hl
    have hll : (l0 ++ l1).length < 17592186044416 := by rw [List.length_append]; exact hl
    obtain ⟨L, hL⟩ : ∃ L, L = l0 ++ l1 := ⟨_, rfl⟩
    have HLL := Lib.hid hll
    rw [← hL] at HC HLL h
    have HR := Lib.hid h
    clear hr0 hr1 HB0 hl hll hL h hc0 hc1
    go_enter Try.func48, Try.ntmps48
    go_wp2_with fail
    refine (HC.out).mono ?_
    rintro e w1 ⟨v1, rfl, ho1, hb1⟩
    have HO1 := Lib.hid (own_weaken ho1 (show w.heap.size ≤ _ by simp))
    have HB1 := Lib.hid (HBB.out.trans (hb1.mono (show w.heap.size ≤ _ by simp)))
    clear ho1 hb1 HC HBB
    go_wp2_with fail
    refine (sort_own w.heap.size v1 L w1 HO1.out HLL.out HB1.out.size).mono ?_
    rintro e w2 ⟨rfl, ho2, hb2⟩
    have HO2 := Lib.hid ho2
    have HB2 := Lib.hid (HB1.out.trans hb2)
    clear ho2 hb2 HO1 HB1
    go_wp2_with fail
    refine (compact_own w.heap.size v1 (L.mergeSort leI) w2 HO2.out (by rw [List.length_mergeSort]; exact HLL.out)).mono ?_
    rintro e w3 ⟨v3, rfl, ho3, hb3⟩
    have HO3 := Lib.hid ho3
    have HB3 := Lib.hid (HB2.out.trans hb3)
    clear ho3 hb3 HO2 HB2
    go_wp2_with fail
    go_ret
    exact ⟨_, rfl, by rw [← HR.out]; exact Kd.R_of_own HO3.out (fun _ _ => trivial), HB3.out⟩
  · cases h
end Go.Proofs.Ytofgaeiihclokaa.P
