/- needs.at, Blocks, Calls, Called, Excluded. No conditions beyond those typed. -/
import Derived.Test.YtofgaeiihclokaaNedB
namespace Go.Proofs.Ytofgaeiihclokaa.P
open Go.RowKit Go.Shelf Go.Lib Go.Sort Go.Maps Go.Proofs.YtofgaeiihclokaaW.PrintWords Go.Proofs.YtofgaeiihclokaaW.PrintLast Go.Proofs.YtofgaeiihclokaaW.PrintMore
set_option linter.unusedVariables false
set_option linter.unusedSimpArgs false

theorem pick_succ (k : Nat) (p : Nat → Bool) : pick (k + 1) p = if p k then pick k p ++ [(k : Int)] else pick k p := by
  unfold pick
  rw [List.range_succ, List.filter_append, List.map_append]
  by_cases h : p k = true <;> simp [h]
theorem pick_length (k : Nat) (p : Nat → Bool) : (pick k p).length ≤ k := by
  unfold pick
  rw [List.length_map]
  exact Nat.le_trans (List.length_filter_le _ _) (by simp)
/-- at, within its loop. -/
structure EIn (w : World) (p : Nat → Bool) (k : Nat) (v : Value) (wr : World) : Prop where
  own : wr.ownsRow w.heap.size 3 1 v (pick k p).length (nums .i64 (pick k p))
  on : Below w.heap.size w wr

set_option maxRecDepth 100000 in
theorem at_of (A0 A1 : Option Addr) (c0 c1 : Nat) (l0 : List S68) (m : Nat) (g : Nat) (lb : Array Value) (pr : S68 → Bool) (w : World)
    (eg : ∀ args w, (callFunc g args).run Try.prog w = .ok (.enter g args) w) (hp : ∀ x W, Below w.heap.size w W → Calls Try.prog g (#[eventV x] ++ lb) W fun e w' => e = .returned (.bool (pr x)) ∧ Below W.heap.size W w')
    (h0 : Kd.C k68 w A0 l0.length l0) (hc0 : l0.length ≤ c0) (hl : l0.length < 17592186044416) :
    Calls Try.prog 49 #[.agg #[.slice A0 l0.length c0, .slice A1 m c1], .func (.func g) #[] lb] w fun e w' => ∃ v, e = .returned v ∧
      w'.ownsRow w.heap.size 3 1 v (eventsOf l0 pr).length ((eventsOf l0 pr).map (Value.int .i64)) ∧ Below w.heap.size w w' := by
  obtain ⟨n, hn⟩ : ∃ n, n = l0.length := ⟨_, rfl⟩
  obtain ⟨p, hpp⟩ : ∃ p : Nat → Bool, p = fun k => pr (l0.getD k z68) := ⟨_, rfl⟩
  have HPP := Lib.hid hpp
  have HE : Hid (eventsOf l0 pr = pick n p) := by show _ = _; unfold eventsOf; rw [hn, hpp]
  rw [HE.out]
  have HN := Lib.hid hn
  have H0 := Lib.hid h0
  have HP := Lib.hid hp
  rw [← hn] at hc0 hl ⊢
  have HI : Hid (EIn w p 0 (.slice none 0 0) (w.alloc (.cells #[.slice A0 n c0, .slice A1 m c1] 25))) := ⟨by rw [show pick 0 p = [] from rfl]; exact own_nil _ _ _ _, (Below.refl w.heap.size w).alloc (Nat.le_refl _) _⟩
  clear hn h0 hp hpp
  go_enter Try.func49, Try.ntmps49
  go_wp2_with fail
  go_loopw [5, 6, 7, 11] (fun v _ _ i wr => ∃ k : Nat, k ≤ n ∧ i = .int .i64 (k : Int) ∧ Hid (EIn w p k v wr)) (fun _ _ _ i _ => n - (intOf i).toNat)
  case atStart => exact ⟨0, Nat.zero_le _, rfl, HI⟩
  case round =>
    obtain ⟨k, hkm, rfl, HJ⟩ := hrel
    by_cases hk : k < n
    · have hc1k : (k : Int) < (n : Int) := by omega
      obtain ⟨ad, rfl, a0, a1, a2, a3, a4, a5⟩ := at_T68 (by have := Kd.C_below H0.out HJ.out.on; exact this) (k : Int) (by omega) (by have := HN.out; omega)
      have hx : rd_T68 l0 (k : Int) = l0.getD k z68 := rfl
      rw [hx, Int.toNat_natCast] at a0 a1 a2 a3 a4 a5
      have HPK : Hid (p k = pr (l0.getD k z68)) := by show _ = _; rw [HPP.out]
      generalize l0.getD k z68 = x at *
      obtain ⟨x0, x1, x2, x3, x4, x5⟩ := x
      have hwk : IntKind.i64.wrap ((k : Int) + 1) = (k : Int) + 1 := IntWalk.i64_in _ (by omega)
      have HB1 := Lib.hid (below_alloc (Below.refl wr.heap.size wr) (.cells #[.string x0, .string x1, .string x2, .bool x3, .bool x4, .int .i64 x5] 68))
      go_wp2_with fail
      refine (HP.out ⟨x0, x1, x2, x3, x4, x5⟩ _ (HJ.out.on.trans (HB1.out.mono HJ.out.on.size))).mono ?_
      rintro e w2 ⟨rfl, hb2⟩
      have HB2 := Lib.hid (HB1.out.trans (hb2.mono (by simp)))
      have HS := Lib.hid (pick_succ k p)
      rw [HPK.out] at HS
      have HLK := Lib.hid (pick_length k p)
      have HO2 := Lib.hid (own_move HJ.out.own (fun j hj => HB2.out.block j (own_lt HJ.out.own j hj)))
      have HI2 := Lib.hid (HJ.out.on.trans (HB2.out.mono HJ.out.on.size))
      clear hb2 a0 a1 a2 a3 a4 a5
      cases hpr : pr ⟨x0, x1, x2, x3, x4, x5⟩ with
      | false =>
        rw [hpr] at HS
        go_wp2_with fail
        go_roundw
        case rel => exact ⟨k + 1, by omega, rfl, ⟨by rw [HS.out]; exact HO2.out, HI2.out⟩⟩
        case measure => simp [intOf]; omega
      | true =>
        rw [hpr] at HS
        go_wp2_with (at_builtin; (refine print_append_num w.heap.size rfl _ _ 33 3 .i64 8 rfl Try.underlying33 info_int (by decide) u5 (pick k p) (k : Int) rfl rfl HO2.out HI2.out HI2.out.size (by have := HLK.out; omega) ?_; intro v3 w3 ho3 hb3 hg3 hat3; have HO3 := Lib.hid ho3; have HB3 := Lib.hid hb3; clear ho3 hb3 hg3 hat3))
        go_roundw
        case rel => exact ⟨k + 1, by omega, rfl, ⟨by rw [HS.out]; exact HO3.out, HB3.out⟩⟩
        case measure => simp [intOf]; omega
    · obtain rfl : k = n := by omega
      have hc1k : ¬ ((k : Int) < (k : Int)) := by omega
      go_wp2_with fail
      go_ret
      exact ⟨_, rfl, HJ.out.own, HJ.out.on⟩

theorem two_in {n : Nat} {t : S48} (h : twoB n t = true) : (0 ≤ t.f1 ∧ t.f1 < (n : Int)) ∧ 0 ≤ t.f2 ∧ t.f2 < (n : Int) := by
  unfold twoB at h
  simp only [Bool.and_eq_true, decide_eq_true_eq] at h
  omega

set_option maxRecDepth 100000 in
theorem needs_Blocks.calls (A0_0 : Option Addr) (c0_0 : Nat) (l0_0 : List (S68)) (A0_1 : Option Addr) (c0_1 : Nat) (l0_1 : List (S48)) (a1 : Int) (r : List Int) (w : World) (hr0_0 : Kd.C k68 w A0_0 l0_0.length l0_0) (hc0_0 : l0_0.length ≤ c0_0) (hr0_1 : Kd.C k48 w A0_1 l0_1.length l0_1) (hc0_1 : l0_1.length ≤ c0_1) (h : needs_Blocks.f l0_0 l0_1 a1 = some r) :
    Calls Try.prog 15 #[.agg #[.slice A0_0 l0_0.length c0_0, .slice A0_1 l0_1.length c0_1], .int .i64 a1] w fun e w' => ∃ v0_ : Value, e = .returned (v0_) ∧ Kd.R (Kd.int .i64) 3 w' w.heap.size (fun _ => True) v0_ r ∧ Below w.heap.size w w' := by
  unfold needs_Blocks.f at h
  split at h
  · rename_i hl
    injection h with h
    have eg : ∀ args w, (callFunc 45 args).run Try.prog w = .ok (.enter 45 args) w := enters_of Try.func45 (by kernel_rfl) rfl
    have hb : Below w.heap.size w ((w.alloc (.cells #[.slice A0_0 l0_0.length c0_0, .slice A0_1 l0_1.length c0_1] 25)).alloc (.cells #[.int .i64 a1] 3)) := ((Below.refl w.heap.size w).alloc (Nat.le_refl _) _).alloc (by simp) _
    have hcell : ((w.alloc (.cells #[.slice A0_0 l0_0.length c0_0, .slice A0_1 l0_1.length c0_1] 25)).alloc (.cells #[.int .i64 a1] 3)).cell? ⟨w.heap.size + 1, 0, none⟩ = some (.int .i64 a1) := by
      simp
    have hc := places_of A0_0 A0_1 c0_0 c0_1 l0_0 l0_1 45 #[.pointer (some ⟨w.heap.size + 1, 0, none⟩)] (tellB a1) _ eg
      (fun t W hW => tellB_of (w.heap.size + 1) a1 t W (by have := hW.size; simp at this; omega) ((hW.cell (p := ⟨w.heap.size + 1, 0, none⟩) (by simp)).trans hcell))
      (fun t h1 _ => (two_in h1).1) (Kd.C_below hr0_0 hb) hc0_0 (Kd.C_below hr0_1 hb) hc0_1 hl
    have HC := Lib.hid hc
    have HB := Lib.hid hb
    have HR := Lib.hid h
    clear hc hb h hr0_0 hr0_1 hcell eg
    go_enter Try.func15, Try.ntmps15
    go_wp2_with fail
    refine (HC.out).mono ?_
    rintro e w2 ⟨v, rfl, hr, hb2⟩
    have HR2 := Lib.hid (Kd.R_lower hr HB.out.size)
    have HB2 := Lib.hid (HB.out.trans (hb2.mono HB.out.size))
    clear hr hb2
    go_wp2_with fail
    go_ret
    exact ⟨v, rfl, by rw [← HR.out]; exact HR2.out, HB2.out⟩
  · cases h

set_option maxRecDepth 100000 in
theorem needs_Calls.calls (A0_0 : Option Addr) (c0_0 : Nat) (l0_0 : List (S68)) (A0_1 : Option Addr) (c0_1 : Nat) (l0_1 : List (S48)) (a1 : Int) (r : List Int) (w : World) (hr0_0 : Kd.C k68 w A0_0 l0_0.length l0_0) (hc0_0 : l0_0.length ≤ c0_0) (hr0_1 : Kd.C k48 w A0_1 l0_1.length l0_1) (hc0_1 : l0_1.length ≤ c0_1) (h : needs_Calls.f l0_0 l0_1 a1 = some r) :
    Calls Try.prog 17 #[.agg #[.slice A0_0 l0_0.length c0_0, .slice A0_1 l0_1.length c0_1], .int .i64 a1] w fun e w' => ∃ v0_ : Value, e = .returned (v0_) ∧ Kd.R (Kd.int .i64) 3 w' w.heap.size (fun _ => True) v0_ r ∧ Below w.heap.size w w' := by
  unfold needs_Calls.f at h
  split at h
  · rename_i hl
    injection h with h
    have eg : ∀ args w, (callFunc 47 args).run Try.prog w = .ok (.enter 47 args) w := enters_of Try.func47 (by kernel_rfl) rfl
    have hb : Below w.heap.size w ((w.alloc (.cells #[.slice A0_0 l0_0.length c0_0, .slice A0_1 l0_1.length c0_1] 25)).alloc (.cells #[.int .i64 a1] 3)) := ((Below.refl w.heap.size w).alloc (Nat.le_refl _) _).alloc (by simp) _
    have hcell : ((w.alloc (.cells #[.slice A0_0 l0_0.length c0_0, .slice A0_1 l0_1.length c0_1] 25)).alloc (.cells #[.int .i64 a1] 3)).cell? ⟨w.heap.size + 1, 0, none⟩ = some (.int .i64 a1) := by
      simp
    have hc := places_of A0_0 A0_1 c0_0 c0_1 l0_0 l0_1 47 #[.pointer (some ⟨w.heap.size + 1, 0, none⟩)] (tellC a1) _ eg
      (fun t W hW => tellC_of (w.heap.size + 1) a1 t W (by have := hW.size; simp at this; omega) ((hW.cell (p := ⟨w.heap.size + 1, 0, none⟩) (by simp)).trans hcell))
      (fun t h1 _ => (two_in h1).2) (Kd.C_below hr0_0 hb) hc0_0 (Kd.C_below hr0_1 hb) hc0_1 hl
    have HC := Lib.hid hc
    have HB := Lib.hid hb
    have HR := Lib.hid h
    clear hc hb h hr0_0 hr0_1 hcell eg
    go_enter Try.func17, Try.ntmps17
    go_wp2_with fail
    refine (HC.out).mono ?_
    rintro e w2 ⟨v, rfl, hr, hb2⟩
    have HR2 := Lib.hid (Kd.R_lower hr HB.out.size)
    have HB2 := Lib.hid (HB.out.trans (hb2.mono HB.out.size))
    clear hr hb2
    go_wp2_with fail
    go_ret
    exact ⟨v, rfl, by rw [← HR.out]; exact HR2.out, HB2.out⟩
  · cases h

set_option maxRecDepth 100000 in
theorem needs_Called.calls (A0_0 : Option Addr) (c0_0 : Nat) (l0_0 : List (S68)) (A0_1 : Option Addr) (c0_1 : Nat) (l0_1 : List (S48)) (r : List Int) (w : World) (hr0_0 : Kd.C k68 w A0_0 l0_0.length l0_0) (hc0_0 : l0_0.length ≤ c0_0) (hr0_1 : Kd.C k48 w A0_1 l0_1.length l0_1) (hc0_1 : l0_1.length ≤ c0_1) (h : needs_Called.f l0_0 l0_1 = some r) :
    Calls Try.prog 22 #[.agg #[.slice A0_0 l0_0.length c0_0, .slice A0_1 l0_1.length c0_1]] w fun e w' => ∃ v0_ : Value, e = .returned (v0_) ∧ Kd.R (Kd.int .i64) 3 w' w.heap.size (fun _ => True) v0_ r ∧ Below w.heap.size w w' := by
  unfold needs_Called.f at h
  split at h
  · rename_i hl
    obtain ⟨hl0, hl1⟩ := hl
    have eg1 : ∀ args w, (callFunc 50 args).run Try.prog w = .ok (.enter 50 args) w := enters_of Try.func50 (by kernel_rfl) rfl
    have eg2 : ∀ args w, (callFunc 51 args).run Try.prog w = .ok (.enter 51 args) w := enters_of Try.func51 (by kernel_rfl) rfl
    have hb : Below w.heap.size w (w.alloc (.cells #[.slice A0_0 l0_0.length c0_0, .slice A0_1 l0_1.length c0_1] 25)) := (Below.refl w.heap.size w).alloc (Nat.le_refl _) _
    have HA := Lib.hid (fun W (hW : Below w.heap.size w W) => at_of A0_0 A0_1 c0_0 c0_1 l0_0 l0_1.length 50 #[] (fun x => decide (0 ≤ x.f5)) W eg1 (fun x W' _ => due_of x W') (Kd.C_below hr0_0 hW) hc0_0 (by omega))
    have HC := Lib.hid (fun W (hW : Below w.heap.size w W) => places_of A0_0 A0_1 c0_0 c0_1 l0_0 l0_1 51 #[] (tellK 2) W eg2 (fun t W' _ => tellK_called t W') (fun t h1 _ => (two_in h1).2) (Kd.C_below hr0_0 hW) hc0_0 (Kd.C_below hr0_1 hW) hc0_1 (by omega))
    have HB := Lib.hid hb
    have HR := Lib.hid h
    have HK := Lib.hid (blk_new w (.cells #[.slice A0_0 l0_0.length c0_0, .slice A0_1 l0_1.length c0_1] 25))
    clear hb h hr0_0 hr0_1 eg1 eg2
    go_enter Try.func22, Try.ntmps22
    go_wp2_with fail
    refine (HA.out _ HB.out).mono ?_
    rintro e w2 ⟨v, rfl, ho2, hb2⟩
    have HO2 := Lib.hid (own_weaken ho2 HB.out.size)
    have HB2 := Lib.hid (HB.out.trans (hb2.mono HB.out.size))
    have HK2 := (hb2.block w.heap.size (by simp)).trans HK.out
    have b0 := blkc HK2 0
    have b1 := blkc HK2 1
    change _ = some (Value.slice A0_0 l0_0.length c0_0) at b0
    change _ = some (Value.slice A0_1 l0_1.length c0_1) at b1
    clear ho2 hb2 HK2
    go_wp2_with fail
    refine (HC.out _ HB2.out).mono ?_
    rintro e w3 ⟨v3, rfl, hr3, hb3⟩
    have HB3 := Lib.hid (HB2.out.trans (hb3.mono HB2.out.size))
    have ho3 := Lib.hid (own_move HO2.out (fun j hj => hb3.block j (own_lt HO2.out j hj)))
    obtain ⟨A3, c3, rfl, hc3, hC3⟩ := Kd.R_reads hr3
    obtain ⟨A2, c2, rfl, hc2, hC2⟩ := Kd.R_reads (Kd.R_of_own (enc := Value.int .i64) (h1 := fun _ => rfl) (ok := fun _ => True) ho3.out (fun _ _ => trivial))
    have HJ := Lib.hid (needs_joined_int.calls A2 c2 _ A3 c3 _ r w3 hC2 hc2 hC3 hc3 HR.out)
    clear hr3 hb3 hC2 hC3 hc2 hc3 ho3 HO2 b0 b1
    go_wp2_with fail
    refine (HJ.out).mono ?_
    rintro e w4 ⟨v4, rfl, hr4, hb4⟩
    have HR4 := Lib.hid (Kd.R_lower hr4 HB3.out.size)
    have HB4 := Lib.hid (HB3.out.trans (hb4.mono HB3.out.size))
    clear hr4 hb4 HJ
    go_wp2_with fail
    go_ret
    exact ⟨v4, rfl, HR4.out, HB4.out⟩
  · cases h

set_option maxRecDepth 100000 in
theorem needs_Excluded.calls (A0_0 : Option Addr) (c0_0 : Nat) (l0_0 : List (S68)) (A0_1 : Option Addr) (c0_1 : Nat) (l0_1 : List (S48)) (r : List Int) (w : World) (hr0_0 : Kd.C k68 w A0_0 l0_0.length l0_0) (hc0_0 : l0_0.length ≤ c0_0) (hr0_1 : Kd.C k48 w A0_1 l0_1.length l0_1) (hc0_1 : l0_1.length ≤ c0_1) (h : needs_Excluded.f l0_0 l0_1 = some r) :
    Calls Try.prog 26 #[.agg #[.slice A0_0 l0_0.length c0_0, .slice A0_1 l0_1.length c0_1]] w fun e w' => ∃ v0_ : Value, e = .returned (v0_) ∧ Kd.R (Kd.int .i64) 3 w' w.heap.size (fun _ => True) v0_ r ∧ Below w.heap.size w w' := by
  unfold needs_Excluded.f at h
  split at h
  · rename_i hl
    obtain ⟨hl0, hl1⟩ := hl
    have eg1 : ∀ args w, (callFunc 53 args).run Try.prog w = .ok (.enter 53 args) w := enters_of Try.func53 (by kernel_rfl) rfl
    have eg2 : ∀ args w, (callFunc 54 args).run Try.prog w = .ok (.enter 54 args) w := enters_of Try.func54 (by kernel_rfl) rfl
    have hb : Below w.heap.size w (w.alloc (.cells #[.slice A0_0 l0_0.length c0_0, .slice A0_1 l0_1.length c0_1] 25)) := (Below.refl w.heap.size w).alloc (Nat.le_refl _) _
    have HA := Lib.hid (fun W (hW : Below w.heap.size w W) => at_of A0_0 A0_1 c0_0 c0_1 l0_0 l0_1.length 53 #[] (fun x => !x.f3) W eg1 (fun x W' _ => out_of x W') (Kd.C_below hr0_0 hW) hc0_0 (by omega))
    have HC := Lib.hid (fun W (hW : Below w.heap.size w W) => places_of A0_0 A0_1 c0_0 c0_1 l0_0 l0_1 54 #[] (tellK 4) W eg2 (fun t W' _ => tellK_excluded t W') (fun t h1 _ => (two_in h1).2) (Kd.C_below hr0_0 hW) hc0_0 (Kd.C_below hr0_1 hW) hc0_1 (by omega))
    have HB := Lib.hid hb
    have HR := Lib.hid h
    have HK := Lib.hid (blk_new w (.cells #[.slice A0_0 l0_0.length c0_0, .slice A0_1 l0_1.length c0_1] 25))
    clear hb h hr0_0 hr0_1 eg1 eg2
    go_enter Try.func26, Try.ntmps26
    go_wp2_with fail
    refine (HA.out _ HB.out).mono ?_
    rintro e w2 ⟨v, rfl, ho2, hb2⟩
    have HO2 := Lib.hid (own_weaken ho2 HB.out.size)
    have HB2 := Lib.hid (HB.out.trans (hb2.mono HB.out.size))
    have HK2 := (hb2.block w.heap.size (by simp)).trans HK.out
    have b0 := blkc HK2 0
    have b1 := blkc HK2 1
    change _ = some (Value.slice A0_0 l0_0.length c0_0) at b0
    change _ = some (Value.slice A0_1 l0_1.length c0_1) at b1
    clear ho2 hb2 HK2
    go_wp2_with fail
    refine (HC.out _ HB2.out).mono ?_
    rintro e w3 ⟨v3, rfl, hr3, hb3⟩
    have HB3 := Lib.hid (HB2.out.trans (hb3.mono HB2.out.size))
    have ho3 := Lib.hid (own_move HO2.out (fun j hj => hb3.block j (own_lt HO2.out j hj)))
    obtain ⟨A3, c3, rfl, hc3, hC3⟩ := Kd.R_reads hr3
    obtain ⟨A2, c2, rfl, hc2, hC2⟩ := Kd.R_reads (Kd.R_of_own (enc := Value.int .i64) (h1 := fun _ => rfl) (ok := fun _ => True) ho3.out (fun _ _ => trivial))
    have HJ := Lib.hid (needs_joined_int.calls A2 c2 _ A3 c3 _ r w3 hC2 hc2 hC3 hc3 HR.out)
    clear hr3 hb3 hC2 hC3 hc2 hc3 ho3 HO2 b0 b1
    go_wp2_with fail
    refine (HJ.out).mono ?_
    rintro e w4 ⟨v4, rfl, hr4, hb4⟩
    have HR4 := Lib.hid (Kd.R_lower hr4 HB3.out.size)
    have HB4 := Lib.hid (HB3.out.trans (hb4.mono HB3.out.size))
    clear hr4 hb4 HJ
    go_wp2_with fail
    go_ret
    exact ⟨v4, rfl, HR4.out, HB4.out⟩
  · cases h
end Go.Proofs.Ytofgaeiihclokaa.P
