/- NeedsHold's walk. No conditions beyond those typed. -/
import Derived.Test.YtofgaeiihclokaaNedH
namespace Go.Proofs.Ytofgaeiihclokaa.P
open Go.RowKit Go.Shelf Go.Lib Go.Sort Go.Maps Go.Proofs.YtofgaeiihclokaaW.PrintWords Go.Proofs.YtofgaeiihclokaaW.PrintLast Go.Proofs.YtofgaeiihclokaaW.PrintMore
set_option linter.unusedVariables false
set_option linter.unusedSimpArgs false

/-- NeedsHold, within its loops. -/
structure HIn (w : World) (mb : Nat) (A0 A1 : Option Addr) (n c0 m c1 : Nat) (M : List Int) (v : Value) (kk : Nat) (S : Int → Prop) (wr : World) : Prop where
  on : Below w.heap.size w wr
  bf : wr.heap[w.heap.size]? = some (.cells #[.slice A0 n c0, .slice A1 m c1] 25 (0, 0))
  row : Kd.R (Kd.int .i64) 3 wr w.heap.size (fun _ => True) v M
  set : BSet wr mb kk S
section
variable {w wr wq : World} {mb kk : Nat} {A0 A1 : Option Addr} {n c0 m c1 : Nat} {M : List Int} {v : Value} {S S' : Int → Prop}
theorem HIn.keep (h : HIn w mb A0 A1 n c0 m c1 M v kk S wr) (hb : Below wr.heap.size wr wq) : HIn w mb A0 A1 n c0 m c1 M v kk S wq where
  on := h.on.trans (hb.mono h.on.size)
  bf := (hb.block _ (Array.getElem?_eq_some_iff.1 h.bf).1).trans h.bf
  row := Kd.R_below h.row hb
  set := h.set.keep (hb.block _ h.set.lt)
theorem HIn.imp (h : HIn w mb A0 A1 n c0 m c1 M v kk S wr) (hS : ∀ x, S x ↔ S' x) : HIn w mb A0 A1 n c0 m c1 M v kk S' wr := ⟨h.on, h.bf, h.row, h.set.imp hS⟩
theorem HIn.put {kk' : Nat} (h : HIn w mb A0 A1 n c0 m c1 M v kk S wr) (hmb : w.heap.size ≤ mb) (hg : wr.grownBy wq (some mb)) (hs : BSet wq mb kk' S') : HIn w mb A0 A1 n c0 m c1 M v kk' S' wq where
  on := h.on.grown hg h.on.size (fun j hj => by injection hj with hj; omega)
  bf := by
    obtain ⟨es, clock, ho⟩ := h.set.obj
    refine (hg.block _ (Array.getElem?_eq_some_iff.1 h.bf).1 (fun e => ?_)).trans h.bf
    injection e with e
    rw [← e, h.bf] at ho
    cases ho
  row := Kd.R_mono (Kd.R_grown (Kd.R_bound h.row) hg (fun k hk e => by
    obtain ⟨es, clock, ho⟩ := h.set.obj
    obtain ⟨_, _, _, q, _, cells, hc⟩ := hk
    injection e with e
    rw [← e, hc] at ho
    cases ho)) (fun _ hk => hk.1)
  set := hs
end
theorem get_lt {l : List Int} {k : Nat} (h : k < l.length) : l[k]? = some (rd l (k : Int)) := by
  show _ = some (l.getD _ 0)
  rw [Int.toNat_natCast]
  exact get_some h

set_option maxHeartbeats 8000000 in
set_option maxRecDepth 100000 in
theorem NeedsHold_walk (A0 A1 : Option Addr) (c0 c1 : Nat) (E : List S68) (T : List S48) (w : World) (h0 : Kd.C k68 w A0 E.length E) (hc0 : E.length ≤ c0) (h1 : Kd.C k48 w A1 T.length T) (hc1 : T.length ≤ c1) :
    Calls Try.prog 4 #[.agg #[.slice A0 E.length c0, .slice A1 T.length c1]] w fun e w' => e = .returned (.bool true) ∧ Below w.heap.size w w' := by
  have hb0 : Below w.heap.size w (w.alloc (.cells #[.slice A0 E.length c0, .slice A1 T.length c1] 25)) := (Below.refl w.heap.size w).alloc (Nat.le_refl _) _
  have HB0 := Lib.hid hb0
  have HK := Lib.hid (blk_new w (.cells #[.slice A0 E.length c0, .slice A1 T.length c1] 25))
  have H0 := Lib.hid h0
  have H1 := Lib.hid h1
  have hmm := @run_makeMap Try.prog
  clear hb0 h0 h1
  go_enter Try.func4, Try.ntmps4
  go_wp2_with fail
  refine (replevinlaw07_awake.calls true _ rfl).mono ?_
  rintro e w1 ⟨rfl, hb1⟩
  have HB1 := Lib.hid (HB0.out.trans (hb1.mono HB0.out.size))
  have HK1 := Lib.hid ((hb1.block w.heap.size (by simp)).trans HK.out)
  have b0 := blkc HK1.out 0
  have b1 := blkc HK1.out 1
  change _ = some (Value.slice A0 E.length c0) at b0
  change _ = some (Value.slice A1 T.length c1) at b1
  clear hb1 HB0 HK
  go_wp2_with fail
  obtain ⟨big, hbig⟩ : ∃ big, replevinlaw07_large.f E T = some big := by
    unfold replevinlaw07_large.f
    split
    · exact ⟨_, rfl⟩
    · exact ⟨_, rfl⟩
  refine (replevinlaw07_large.calls A0 c0 E A1 c1 T big w1 (Kd.C_below H0.out HB1.out) hc0 (Kd.C_below H1.out HB1.out) hc1 hbig).mono ?_
  rintro e w2 ⟨rfl, hb2⟩
  have HB2 := Lib.hid (HB1.out.trans (hb2.mono HB1.out.size))
  have HK2 := Lib.hid ((hb2.block w.heap.size (by have := HB1.out.size; have := (Array.getElem?_eq_some_iff.1 HK1.out).1; omega)).trans HK1.out)
  clear hb2 HB1 HK1 b0 b1
  have HBIG := Lib.hid hbig
  clear hbig
  cases big with
  | true =>
    go_wp2_with fail
    go_ret
    exact ⟨rfl, HB2.out⟩
  | false =>
    have hsz : E.length ≤ 20 ∧ T.length ≤ 150 := by
      have := HBIG.out
      unfold replevinlaw07_large.f at this
      split at this
      · cases this
      · injection this with this
        rw [decide_eq_false_iff_not] at this
        omega
    obtain ⟨hE, hT⟩ := hsz
    have hb3 := below_alloc (Below.refl w2.heap.size w2) (.map #[] 0)
    have HB3 := Lib.hid (HB2.out.trans (hb3.mono HB2.out.size))
    have HK3 := Lib.hid ((hb3.block w.heap.size (Array.getElem?_eq_some_iff.1 HK2.out).1).trans HK2.out)
    have HS3 := Lib.hid (BSet.made w2)
    have hmb : w.heap.size ≤ w2.heap.size := HB2.out.size
    have b0 := blkc HK3.out 0
    have b1 := blkc HK3.out 1
    change _ = some (Value.slice A0 E.length c0) at b0
    change _ = some (Value.slice A1 T.length c1) at b1
    clear hb3 HK2
    obtain ⟨mb, hmbe⟩ : ∃ mb, mb = w2.heap.size := ⟨_, rfl⟩
    go_wp2_with fail
    obtain ⟨M, hM⟩ : ∃ M, M = pick E.length (mattersB E T) := ⟨_, rfl⟩
    have hev := (matters_ev E T (by omega) (by omega)).at
    rw [← hM] at hev
    obtain ⟨kf, hkf⟩ := hev
    refine (needs_Matters.calls kf A0 c0 E A1 c1 T M _ (Kd.C_below H0.out HB3.out) hc0 (Kd.C_below H1.out HB3.out) hc1 hkf).mono ?_
    rintro e w4 ⟨v4, rfl, hr4, hb4⟩
    have HI : Hid (HIn w mb A0 A1 E.length c0 T.length c1 M v4 0 (fun x => x ∈ M.take 0) w4) := by
      refine ⟨HB3.out.trans (hb4.mono HB3.out.size), (hb4.block _ (Array.getElem?_eq_some_iff.1 HK3.out).1).trans HK3.out, Kd.R_lower hr4 HB3.out.size, ?_⟩
      rw [hmbe]
      exact (HS3.out.keep (hb4.block _ HS3.out.lt)).imp (fun x => by simp)
    have HMM := Lib.hid hM
    have hML : M.length ≤ E.length := by rw [hM]; exact pick_length _ _
    rw [← hmbe] at hmb ⊢
    clear hr4 hb4 hkf HB3 HK3 HS3 b0 b1 hM hmbe HB2
    obtain ⟨AM, cM, rfl⟩ := Kd.R_slice HI.out.row
    obtain ⟨p, hp⟩ : ∃ p, p = M.length := ⟨_, rfl⟩
    have HP := Lib.hid hp
    have hin : ∀ x, x ∈ M → 0 ≤ x ∧ x < (E.length : Int) := fun x hx => by
      rw [HMM.out] at hx
      obtain ⟨i, hi, _, rfl⟩ := mem_pick.1 hx
      omega
    have HIN := Lib.hid hin
    rw [← hp] at hML HI ⊢
    clear hp hin
    go_wp2_with fail
    go_loopw [6, 22] (fun _ i wr => ∃ k : Nat, k ≤ p ∧ i = .int .i64 (k : Int) ∧ Hid (HIn w mb A0 A1 E.length c0 T.length c1 M (.slice AM p cM) k (fun x => x ∈ M.take k) wr)) (fun _ i _ => p - (intOf i).toNat)
    case atStart => exact ⟨0, Nat.zero_le _, rfl, HI⟩
    case round =>
      clear HI
      obtain ⟨k, hkp, rfl, HI⟩ := hrel
      by_cases hk : k < p
      · have hc1k : (k : Int) < (p : Int) := by omega
        have hrd := Kd.R_reads' HI.out.row
        obtain ⟨ad, rfl, a0⟩ := Kd.at_int hrd.2.2 (k : Int) (by omega) (by omega)
        rw [Int.toNat_natCast] at a0
        have hmem : rd M (k : Int) ∈ M := List.mem_of_getElem? (get_lt (by omega))
        have hx := HIN.out _ hmem
        have hget := get_lt (l := M) (k := k) (by omega)
        have HGET := Lib.hid hget
        generalize rd M (k : Int) = x at *
        have hkey : keyOf Try.prog 3 (.int .i64 x) = some (.int .i64 x) := keyOf_int_mk Try.underlying3 (WalkArith.wf_i64 (by omega))
        have hwk : IntKind.i64.wrap ((k : Int) + 1) = (k : Int) + 1 := IntWalk.i64_in _ (by omega)
        obtain ⟨D, hown, hD1, hD2⟩ := HI.out.set.ex
        have HOW := Lib.hid hown
        have HD1 := Lib.hid hD1
        have HD2 := Lib.hid hD2
        clear hrd hmem hx hget hown hD1 hD2
        go_wp2_with (at_mapUpdate; refine wpList_mapUpdate_own _ rfl _ _ _ 46 rfl 3 4 intLaw Try.underlying46 _ mb k D rfl HOW.out (by unfold maxLen; omega) _ _ _ rfl rfl hkey _ [] (plainElem_bool Try.underlying4 true) ?_; intro w5 hown5 hg5; have HJ := Lib.hid (HI.out.put hmb hg5 (BSet.put HOW.out.isMap HD1.out HD2.out hown5)); clear hown5 hg5)
        go_roundw
        case rel => exact ⟨k + 1, by omega, rfl, HJ.out.imp (fun y => by rw [List.take_add_one, HGET.out, List.mem_append]; simp)⟩
        case measure => simp [intOf]; omega
      · obtain rfl : k = p := by omega
        have hc1k : ¬ ((k : Int) < (k : Int)) := by omega
        have HI2 : Hid (HIn w mb A0 A1 E.length c0 T.length c1 M (.slice AM k cM) k (fun x => x ∈ M) wr) := HI.out.imp (fun y => by rw [List.take_of_length_le (by have := HP.out; omega)])
        have b0 := blkc HI.out.bf 0
        have b1 := blkc HI.out.bf 1
        change _ = some (Value.slice A0 E.length c0) at b0
        change _ = some (Value.slice A1 T.length c1) at b1
        go_wp2_with fail
        obtain ⟨C, hC⟩ : ∃ C, C = pick E.length (calledB E T) := ⟨_, rfl⟩
        refine (needs_Called.calls A0 c0 E A1 c1 T C _ (Kd.C_below H0.out HI2.out.on) hc0 (Kd.C_below H1.out HI2.out.on) hc1 (by rw [hC]; exact needs_Called.tells E T (by omega) (by omega))).mono ?_
        rintro e w5 ⟨v5, rfl, hr5, hb5⟩
        have HI5 := Lib.hid (HI2.out.keep hb5)
        have HC := Lib.hid hC
        have hCL : C.length ≤ E.length := by rw [hC]; exact pick_length _ _
        obtain ⟨AC, cC, rfl, hcC, hCC⟩ := Kd.R_reads hr5
        have HCC := Lib.hid hCC
        have hcm : ∀ x, x ∈ C → x ∈ M := fun x hx => by
          rw [HC.out] at hx
          obtain ⟨i, hi, h2, rfl⟩ := mem_pick.1 hx
          rw [HMM.out]
          exact mem_pick.2 ⟨i, hi, matters_called h2, rfl⟩
        have HCM := Lib.hid hcm
        obtain ⟨q, hq⟩ : ∃ q, q = C.length := ⟨_, rfl⟩
        have HQ := Lib.hid hq
        rw [← hq] at HCC hCL ⊢
        clear hr5 hb5 hC hCC hcm hq HI HI2 b0 b1 hcC
        go_wp2_with fail
        go_loopw [8, 32] (fun _ i wq => w5 = wq ∧ ∃ k : Nat, k ≤ q ∧ i = .int .i64 (k : Int)) (fun _ i _ => q - (intOf i).toNat)
        case atStart => exact ⟨rfl, 0, Nat.zero_le _, rfl⟩
        case round =>
          obtain ⟨rfl, j, hjq, rfl⟩ := hrel
          by_cases hj : j < q
          · have hc1j : (j : Int) < (q : Int) := by omega
            have hcl := HCC.out
            obtain ⟨ad, rfl, a0⟩ := Kd.at_int hcl (j : Int) (by omega) (by omega)
            rw [Int.toNat_natCast] at a0
            have hmem : rd C (j : Int) ∈ C := List.mem_of_getElem? (get_lt (by have := HQ.out; omega))
            have hmemM := HCM.out _ hmem
            have hx := HIN.out _ hmemM
            generalize rd C (j : Int) = x at *
            have hrun := HI5.out.set.look hmemM (by omega)
            have hwk : IntKind.i64.wrap ((j : Int) + 1) = (j : Int) + 1 := IntWalk.i64_in _ (by omega)
            clear hcl hmem hmemM hx
            go_wp2_with fail
            go_roundw
            case rel => exact ⟨trivial, j + 1, by omega, rfl⟩
            case measure => simp [intOf]; omega
          · obtain rfl : j = q := by omega
            have hc1j : ¬ ((j : Int) < (j : Int)) := by omega
            go_wp2_with fail
            go_loopw [10, 12, 43] (fun _ _ i wr => ∃ k' : Nat, k' ≤ k ∧ i = .int .i64 (k' : Int) ∧ Hid (HIn w mb A0 A1 E.length c0 T.length c1 M (.slice AM k cM) k (fun x => x ∈ M) wr)) (fun _ _ i _ => k - (intOf i).toNat)
            case atStart => exact ⟨0, Nat.zero_le _, rfl, HI5⟩
            case round =>
              clear HI5 HCC
              obtain ⟨g, hgk, rfl, HI⟩ := hrel
              by_cases hg : g < k
              · have hc1g : (g : Int) < (k : Int) := by omega
                have hrd := Kd.R_reads' HI.out.row
                obtain ⟨ad, rfl, a0⟩ := Kd.at_int hrd.2.2 (g : Int) (by omega) (by omega)
                rw [Int.toNat_natCast] at a0
                have hmem : rd M (g : Int) ∈ M := List.mem_of_getElem? (get_lt (by omega))
                have hx := HIN.out _ hmem
                generalize rd M (g : Int) = x at *
                obtain ⟨xn, rfl⟩ := Int.eq_ofNat_of_zero_le hx.1
                have HMX := Lib.hid hmem
                have HXN : Hid (xn < E.length) := by show _ < _; omega
                have b0 := blkc HI.out.bf 0
                have b1 := blkc HI.out.bf 1
                change _ = some (Value.slice A0 E.length c0) at b0
                change _ = some (Value.slice A1 T.length c1) at b1
                obtain ⟨L1, hL1⟩ : ∃ L1, L1 = pick E.length (blocksB E.length T (xn : Int)) := ⟨_, rfl⟩
                obtain ⟨L2, hL2⟩ : ∃ L2, L2 = pick E.length (callsB E.length T (xn : Int)) := ⟨_, rfl⟩
                have hl1 : L1.length ≤ E.length := by rw [hL1]; exact pick_length _ _
                have hl2 : L2.length ≤ E.length := by rw [hL2]; exact pick_length _ _
                have HBL := Lib.hid (fun W (hW : Below w.heap.size w W) => needs_Blocks.calls A0 c0 E A1 c1 T (xn : Int) L1 W (Kd.C_below H0.out hW) hc0 (Kd.C_below H1.out hW) hc1 (by unfold needs_Blocks.f; rw [if_pos (by omega), blocks_pick, hL1]))
                have HCL := Lib.hid (fun W (hW : Below w.heap.size w W) => needs_Calls.calls A0 c0 E A1 c1 T (xn : Int) L2 W (Kd.C_below H0.out hW) hc0 (Kd.C_below H1.out hW) hc1 (by unfold needs_Calls.f; rw [if_pos (by omega), calls_pick, hL2]))
                have hsub : ∀ y, y ∈ L1 ++ L2 → y ∈ M := by
                  intro y hy
                  have hmx : mattersB E T xn = true := by
                    have h7 := HMX.out
                    rw [HMM.out] at h7
                    obtain ⟨i, _, h8, h9⟩ := mem_pick.1 h7
                    have : xn = i := by omega
                    rw [this]
                    exact h8
                  rw [HMM.out]
                  rw [List.mem_append] at hy
                  rcases hy with hy | hy
                  · rw [hL1] at hy
                    obtain ⟨j2, h6, h7, rfl⟩ := mem_pick.1 hy
                    unfold blocksB at h7
                    rw [Bool.and_eq_true] at h7
                    exact mem_pick.2 ⟨j2, h6, matters_closed HXN.out h6 hmx (by unfold needB; rw [h7.2]; rfl), rfl⟩
                  · rw [hL2] at hy
                    obtain ⟨j2, h6, h7, rfl⟩ := mem_pick.1 hy
                    unfold callsB at h7
                    rw [Bool.and_eq_true] at h7
                    exact mem_pick.2 ⟨j2, h6, matters_closed HXN.out h6 hmx (by unfold needB; rw [h7.2, Bool.or_true]), rfl⟩
                have HSUB := Lib.hid hsub
                have hwg : IntKind.i64.wrap ((g : Int) + 1) = (g : Int) + 1 := IntWalk.i64_in _ (by omega)
                have HI1 := Lib.hid (HI.out.keep (below_drew (Below.refl wr.heap.size wr)))
                have hl12 : (L1.length + L2.length) * 8 ≤ 140737488355328 := by omega
                have HL12 := Lib.hid hl12
                have HLL := Lib.hid (And.intro hl1 hl2)
                clear hrd hmem hx hL1 hL2 hsub hl1 hl2 hl12
                go_upto_region 21 with (fail)
                go_region_held3 (fun w' => w'.cell? ⟨w.heap.size, 0, none⟩ = some (.slice A0 E.length c0) ∧ w'.cell? ⟨w.heap.size, 1, none⟩ = some (.slice A1 T.length c1))
                  (go_keep)
                  (first
                    | (refine Kd.R_append_rows_step (Kd.int .i64) (Rr := (Kd.int .i64).K w7) (w0 := wr) wr.heap.size (by rfl) (.tmp 49) (.tmp 52) 33 3 (.int .i64 0) 8 (by rfl) Try.underlying33 info_int rfl (by decide) (by decide) (.slice A6 L1.length c6) L1 L2 A7 L2.length c7 (fun _ => True) (fun _ => False) (by rfl) (by rfl) HR7.out HC7.out (fun _ _ h => h) (fun _ h => h.elim) (fun _ _ => trivial) HB7.out HB7.out.size HL12.out ?_; intro v8 w8 hr8 hb8 hg8 hat8; obtain ⟨A8, c8, rfl⟩ := Kd.R_slice hr8; have HI8 := Lib.hid (HI.out.keep hb8); have HR8 := Lib.hid hr8; have d0 := blkc HI8.out.bf 0; have d1 := blkc HI8.out.bf 1; change _ = some (Value.slice A0 E.length c0) at d0; change _ = some (Value.slice A1 T.length c1) at d1; clear hr8 hb8 hg8 hat8)
                    | (go_at_call 15; refine (HBL.out _ HI1.out.on).mono ?_; rintro e w6 ⟨v6, rfl, hr6, hb6⟩; obtain ⟨A6, c6, rfl⟩ := Kd.R_slice hr6; have HI6 := Lib.hid (HI1.out.keep hb6); have HR6 := Lib.hid hr6; have HB6 := Lib.hid (show Below wr.heap.size wr w6 from (below_drew (Below.refl wr.heap.size wr)).trans hb6); have d0 := blkc HI6.out.bf 0; have d1 := blkc HI6.out.bf 1; change _ = some (Value.slice A0 E.length c0) at d0; change _ = some (Value.slice A1 T.length c1) at d1; clear hr6 hb6)
                    | (go_at_call 17; refine (HCL.out _ HI6.out.on).mono ?_; rintro e w7 ⟨v7, rfl, hr7, hb7⟩; obtain ⟨A7, c7, rfl, hc7, hC7⟩ := Kd.R_reads hr7; have HI7 := Lib.hid (HI6.out.keep hb7); have HR7 := Lib.hid (Kd.R_below HR6.out hb7); have HB7 := Lib.hid (HB6.out.trans (hb7.mono HB6.out.size)); have HC7 := Lib.hid hC7; have d0 := blkc HI7.out.bf 0; have d1 := blkc HI7.out.bf 1; change _ = some (Value.slice A0 E.length c0) at d0; change _ = some (Value.slice A1 T.length c1) at d1; clear hr7 hb7 hc7 hC7)
                    | fail)
                obtain ⟨L, hL⟩ : ∃ L, L = L1 ++ L2 := ⟨_, rfl⟩
                rw [← hL] at HR8 HSUB
                obtain ⟨q2, hq2⟩ : ∃ q2, q2 = L.length := ⟨_, rfl⟩
                have HQ2 := Lib.hid hq2
                rw [← hq2] at HR8
                have e54n : L1.length + L2.length = q2 := by rw [hq2, hL, List.length_append]
                have e54 : (L1.length : Int) + (L2.length : Int) = (q2 : Int) := by omega
                simp only [List.length_append, Int.natCast_add, e54n, e54]
                clear e54n e54
                have hq2b : q2 ≤ 40 := by rw [hq2, hL, List.length_append]; have := HLL.out; omega
                clear hL hq2 d0 d1 a0 b0 b1
                go_wp2_with fail
                go_loopw [12, 55] (fun _ i wq => w8 = wq ∧ ∃ k' : Nat, k' ≤ q2 ∧ i = .int .i64 (k' : Int)) (fun _ i _ => q2 - (intOf i).toNat)
                case atStart => exact ⟨rfl, 0, Nat.zero_le _, rfl⟩
                case round =>
                  obtain ⟨rfl, s, hsq, rfl⟩ := hrel
                  by_cases hs : s < q2
                  · have hc1s : (s : Int) < (q2 : Int) := by omega
                    have hcl := (Kd.R_reads' HR8.out).2.2
                    obtain ⟨ad8, rfl, a8⟩ := Kd.at_int hcl (s : Int) (by omega) (by have := HQ2.out; omega)
                    rw [Int.toNat_natCast] at a8
                    have hmem : rd L (s : Int) ∈ L := List.mem_of_getElem? (get_lt (by have := HQ2.out; omega))
                    have hmemM := HSUB.out _ hmem
                    have hx := HIN.out _ hmemM
                    generalize rd L (s : Int) = y at *
                    have hrun := HI8.out.set.look hmemM (by omega)
                    have hws : IntKind.i64.wrap ((s : Int) + 1) = (s : Int) + 1 := IntWalk.i64_in _ (by omega)
                    clear hcl hmem hmemM hx
                    go_wp2_with fail
                    go_roundw
                    case rel => exact ⟨trivial, s + 1, by omega, rfl⟩
                    case measure => simp [intOf]; omega
                  · obtain rfl : s = q2 := by omega
                    have hc1s : ¬ ((s : Int) < (s : Int)) := by omega
                    go_wp2_with fail
                    go_roundw
                    case rel => exact ⟨g + 1, by omega, rfl, HI8⟩
                    case measure => simp [intOf]; omega
              · obtain rfl : g = k := by omega
                have hc1g : ¬ ((g : Int) < (g : Int)) := by omega
                have hnd : M.Nodup := by rw [HMM.out]; exact (pick_sorted _ _).imp (fun {a b} h => by omega)
                have hln := HI.out.set.len hnd 3
                rw [← HP.out] at hln
                clear hnd
                go_wp2_with fail
                go_ret
                exact ⟨by simp, HI.out.on⟩
end Go.Proofs.Ytofgaeiihclokaa.P
