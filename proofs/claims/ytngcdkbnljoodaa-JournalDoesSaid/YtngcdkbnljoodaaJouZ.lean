/- awake, the journal's law's: it answers true. No conditions beyond those typed. -/
import Derived.Test.YtngcdkbnljoodaaJouY
namespace Go.Proofs.Ytngcdkbnljoodaa
set_option linter.unusedVariables false
set_option linter.unusedSimpArgs false
open Go.RowKit Go.Proofs.YtngcdkbnljoodaaW.PrintWords

theorem aw_len1 : (frames ([] ++ [[97]])).length = 9 := by simp [frames_cons, frames_nil, frameL_length]
theorem aw_len2 : (frames ([] ++ [[97]] ++ [[98, 98]])).length = 19 := by simp [frames_cons, frames_nil, frameL_length]
theorem aw_make (w : World) : (Instr.makeSlice 56 (.int .i64 110) (.int .i64 110)).run Try.prog w = .ok (.slice (some ⟨w.heap.size, 0, none⟩) 110 110) (w.alloc (.cells (u8v (zs 110)).toArray 5)) := by
  have hr := run_make_row' (P := Try.prog) 56 5 (.int .u8 0) 1 Try.underlying56 u8_info rfl .i64 .i64 110 (by omega) (by omega) w
  rw [madeCells_same _ (.int .u8 0) _ (by decide) one_zero] at hr
  rw [u8v_zs]
  exact hr
theorem Same_eq {w : World} {v u : Value} {l : List Bs} (hv : RowS w v l) (hu : RowS w u l) (hl : l.length ≤ 1000000) :
    Calls Try.prog 21 #[v, u] w fun e w' => e = .returned (.bool true) ∧ Only [] w w' := by
  refine (Same_of hv hu (by omega)).mono ?_
  rintro e w' ⟨rfl, d, rfl⟩
  exact ⟨by rw [decide_eq_true rfl], (Only.refl _ _).drewN d⟩
theorem only_own {w a c : World} {p b j : Nat} {rb : Option Nat} (h : Only [] w a) (k : Only ([p, b] ++ (j :: rb.toList)) a c) (h1 : w.heap.size ≤ p ∧ w.heap.size ≤ b) (h3 : w.heap.size ≤ j) (h4 : ∀ g, rb = some g → w.heap.size ≤ g) : Only [] w c :=
  h.trans k (by
    intro x hx
    simp at hx
    rcases hx with rfl | rfl | rfl | h
    · exact Or.inr h1.1
    · exact Or.inr h1.2
    · exact Or.inr h3
    · exact Or.inr (h4 x h))
theorem rb_ge {w a : World} {rb rb' : Option Nat} (ho : Only [] w a) (h : ∀ g, rb = some g → w.heap.size ≤ g) (h' : ∀ g, rb' = some g → rb = some g ∨ a.heap.size ≤ g) : ∀ g, rb' = some g → w.heap.size ≤ g := fun g hg => by
  rcases h' g hg with h2 | h2
  · exact h g h2
  · have := ho.size; omega
/-- A journal's blocks are none of the store's. -/
theorem JnIs.away {w : World} {j p b pf nb fin q : Nat} {rb : Option Nat} {l : List Bs} {o : Bool} {s : St} (h : JnIs w j rb q pf nb l fin o) (hs : StoreIs w p b s) :
    (j ≠ p ∧ j ≠ b) ∧ (∀ g, rb = some g → g ≠ p ∧ g ≠ b) ∧ j < w.heap.size ∧ ∀ g, rb = some g → g < w.heap.size := by
  obtain ⟨v, hv, hown, hr⟩ := h.ex
  obtain ⟨_, _, ⟨wr, z3⟩, z4⟩ := hs
  refine ⟨⟨blk_ne hv z3 (by decide), blk_ne hv z4 (by decide)⟩, fun g hg => ?_, blk_lt hv, fun g hg => (hown.lt g (hr.trans hg)).2⟩
  obtain ⟨cells, hc⟩ := own_typed hown g (hr.trans hg)
  exact ⟨(fun e => by rw [e, z3] at hc; cases hc), (fun e => by rw [e, z4] at hc; cases hc)⟩
theorem own_away {w : World} {p b base n j q pf nb fin : Nat} {rb : Option Nat} {ls : List Bs} {o : Bool} {v : Value} {xs : List Value} {s : St} (h : w.ownsRow base 9 1 v n xs) (hs : StoreIs w p b s) (hj : JnIs w j rb q pf nb ls fin o) : ∀ g, v.ownBlock = some g → g ≠ p ∧ g ≠ b ∧ g ≠ j := fun g hg => by
  obtain ⟨_, _, ⟨wr, z3⟩, z4⟩ := hs
  obtain ⟨v, hv, _⟩ := hj.ex
  obtain ⟨cells, hc⟩ := own_typed h g hg
  exact ⟨(fun e => by rw [e, z3] at hc; cases hc), (fun e => by rw [e, z4] at hc; cases hc), (fun e => by rw [e, hv] at hc; cases hc)⟩
theorem aw_pair (w : World) (t : TypeId) : RowS (w.alloc (.cells #[.string { data := #[97] }, .string { data := #[98, 98] }] t)) (.slice (some ⟨w.heap.size, 0, none⟩) 2 2) ([] ++ [[97]] ++ [[98, 98]]) :=
  ⟨_, 2, rfl, fun k x h => ⟨_, rfl, by
    match k, h with
    | 0, h => simp at h; subst h; simp [Addr.add]; rfl
    | 1, h => simp at h; subst h; simp [Addr.add]; rfl⟩⟩
set_option maxHeartbeats 4000000 in
set_option maxRecDepth 100000 in
theorem awake_of (w : World) : Calls Try.prog 7 #[] w fun e w' => e = .returned (.bool true) ∧ Only [] w w' := by
  have HN : Hid (Calls Try.prog 8 #[.int .i64 4] w fun e w' => e = .returned (.tuple #[.pointer (some ⟨w.heap.size + 1, 0, none⟩), .int .i64 0]) ∧ StoreIs w' (w.heap.size + 1) w.heap.size (St.new 4) ∧ Only [] w w') := new_up 4 (by decide) (by decide) w
  obtain ⟨p, hp⟩ : ∃ p, p = w.heap.size + 1 := ⟨_, rfl⟩
  obtain ⟨b, hb⟩ : ∃ b, b = w.heap.size := ⟨_, rfl⟩
  rw [← hp, ← hb] at HN
  have hpb : w.heap.size ≤ p ∧ w.heap.size ≤ b := by omega
  clear hp hb
  go_enter Try.func7, Try.ntmps7
  go_wp2_with fail
  refine (HN.out).mono ?_
  rintro e w1 ⟨rfl, hs1, ho1⟩
  have HS1 := Lib.hid hs1
  have HO1 := Lib.hid ho1
  clear hs1 ho1 HN
  go_wp2_with fail
  refine (open_nil w1).mono ?_
  rintro e _ ⟨rfl, rfl⟩
  go_wp2_with fail
  refine (open_up HS1.out rfl rfl (scan_new 4 (by decide) (by decide))).mono ?_
  rintro e w2 ⟨s2, j, rb, v, rfl, hl2, hfu2, ⟨P2, hP2, hT2⟩, hj, hrb, hown2, hne2, ho2⟩
  have hlr := RowS.of_own hown2
  obtain ⟨va, vc, rfl, hr2⟩ := hlr
  clear hr2
  have HL2 := Lib.hid hl2
  have HF2 := Lib.hid hfu2
  have HN2 : Hid (s2.n = 4) := hT2.n
  have HJ : Hid (w.heap.size ≤ j ∧ ∀ g, rb = some g → w.heap.size ≤ g) := ⟨by have := HO1.out.size; omega, fun g hg => by have := HO1.out.size; have := hrb g hg; omega⟩
  have HO2 : Hid (Only [] w w2) := HO1.out.trans ho2 (by simp; omega)
  clear hl2 hfu2 hP2 hT2 hj hrb hown2 hne2 ho2 HS1
  go_wp2_with fail
  refine (app_sure HL2.out HF2.out _ (by decide) (by decide) (by decide)).mono ?_
  rintro e w3 ⟨rfl, s3, P3, rb3, hP3, hT3, ho3, hrb3, hl3, hfu3⟩
  have HL3 := Lib.hid hl3
  have HF3 := Lib.hid hfu3
  have HN3 : Hid (s3.n = 4) := hT3.n.trans HN2.out
  have HJ3 : Hid (∀ g, rb3 = some g → w.heap.size ≤ g) := rb_ge HO2.out HJ.out.2 hrb3
  have HO3 : Hid (Only [] w w3) := only_own HO2.out ho3 hpb HJ.out.1 HJ.out.2
  clear hP3 hT3 ho3 hrb3 hl3 hfu3 HL2 HF2 HN2
  go_wp2_with fail
  refine (app_sure HL3.out HF3.out _ (by decide) (by decide) (by rw [aw_len1]; decide)).mono ?_
  rintro e w4 ⟨rfl, s4, P4, rb4, hP4, hT4, ho4, hrb4, hl4, hfu4⟩
  have HL4 := Lib.hid hl4
  have HF4 := Lib.hid hfu4
  have HN4 : Hid (s4.n = 4) := hT4.n.trans HN3.out
  have HJ4 : Hid (∀ g, rb4 = some g → w.heap.size ≤ g) := rb_ge HO3.out HJ3.out hrb4
  have HO4 : Hid (Only [] w w4) := only_own HO3.out ho4 hpb HJ.out.1 HJ3.out
  clear hP4 hT4 ho4 hrb4 hl4 hfu4 HL3 HF3 HN3 HJ3 HO3
  go_wp2_with fail
  refine (append_bad _ (Or.inl rfl)).mono ?_
  rintro e _ ⟨rfl, rfl⟩
  go_wp2_with fail
  refine (live_room HL4.out).mono ?_
  rintro e w5 ⟨rfl, ho5⟩
  have HL5 : Hid (Live w5 p b j rb4 s4 0 (St.new 4).n ([] ++ [[97]] ++ [[98, 98]])) := HL4.out.only ho5 (by simp) (by simp) (by simp) (by simp)
  have HO5 : Hid (Only [] w w5) := HO4.out.tr ho5
  rw [aw_len2, show (32 * ((St.new 4).n : Int) - ((19 : Nat) : Int)) = 109 from rfl]
  clear ho5 HL4 HO4
  have hmk := aw_make w5
  obtain ⟨w6, hw6⟩ : ∃ w6, w6 = w5.alloc (.cells (u8v (zs 110)).toArray 5) := ⟨_, rfl⟩
  have hcv := conv_string (W := w6) (g := w5.heap.size) (l := zs 110) (by rw [hw6]; exact blk_new w5 _) 110 110 (zs_length _)
  rw [← hw6] at hmk
  have hO6 : Only [] w5 w6 := by rw [hw6]; exact (Only.refl [] w5).alloc _
  have HL6 : Hid (Live w6 p b j rb4 s4 0 (St.new 4).n ([] ++ [[97]] ++ [[98, 98]])) := HL5.out.only hO6 (by simp) (by simp) (by simp) (by simp)
  have HO6 : Hid (Only [] w w6) := HO5.out.tr hO6
  obtain ⟨z, hz⟩ : ∃ z, z = mkS (zs 110) := ⟨_, rfl⟩
  have HZ : Hid (z.size = 110) := by show z.size = 110; rw [hz, size_mkS, zs_length]
  rw [← hz] at hcv
  clear hw6 hO6 HL5 HO5 hz
  go_wp2_with fail
  refine (app_full HL6.out z (by rw [HZ.out]; decide) (by rw [HZ.out]; decide) (by rw [aw_len2, HZ.out]; decide)).mono ?_
  rintro e w7 ⟨rfl, ho7⟩
  have hl7 := HL6.out.only ho7 (by simp) (by simp) (by simp) (by simp)
  have HO7 : Hid (Only [] w w7) := HO6.out.tr ho7
  have hsc7 := hl7.sd.scan
  have HOP := Lib.hid (open_up hl7.st hl7.up HF4.out (l := [] ++ [[97]] ++ [[98, 98]]) (t := _) (by rw [HN4.out]; exact hsc7))
  have HL7 := Lib.hid hl7
  clear ho7 hmk hcv HL6 HO6 hl7 hsc7 HZ
  go_wp2_with fail
  refine (HOP.out).mono ?_
  rintro e w8 ⟨s8, k, rk, m, rfl, hl8, hfu8, ⟨P8, hP8, hT8⟩, hk, hrk, hown8, hne8, ho8⟩
  obtain ⟨ma, mc, rfl, hr8⟩ := RowS.of_own hown8
  have e8 : ([] ++ [[97]] ++ [[98, 98]] : List Bs).length = 2 := rfl
  rw [e8] at hown8 hne8 ⊢
  have haw := HL7.out.jn.away HL7.out.st
  have HJ8 : Hid (JnIs w8 j rb4 p 0 (St.new 4).n ([] ++ [[97]] ++ [[98, 98]]) (frames ([] ++ [[97]] ++ [[98, 98]])).length false) := HL7.out.jn.only ho8 (by simp; omega) (by simp; exact fun g hg => haw.2.1 g hg)
  have HK : Hid (w.heap.size ≤ k ∧ ∀ g, rk = some g → w.heap.size ≤ g) := ⟨by have := HO7.out.size; omega, fun g hg => by have := HO7.out.size; have := hrk g hg; omega⟩
  have HA : Hid (j ≠ k ∧ (∀ g, rk = some g → j ≠ g) ∧ (∀ g, rb4 = some g → g ≠ k ∧ ∀ h, rk = some h → g ≠ h)) := ⟨by omega, fun g hg => by have := hrk g hg; omega, fun g hg => ⟨by have := haw.2.2.2 g hg; omega, fun h hh => by have := haw.2.2.2 g hg; have := hrk h hh; omega⟩⟩
  have HAW : Hid ((j ≠ p ∧ j ≠ b) ∧ (∀ g, rb4 = some g → g ≠ p ∧ g ≠ b)) := ⟨haw.1, haw.2.1⟩
  have HO8 : Hid (Only [] w w8) := HO7.out.trans ho8 (by simp; omega)
  have HL8 := Lib.hid hl8
  have HF8 := Lib.hid hfu8
  have HN8 : Hid (s8.n = 4) := hT8.n.trans HN4.out
  have HM8 := Lib.hid hown8
  have HE8 := Lib.hid hne8
  clear e8 hr8 haw hl8 hfu8 hP8 hT8 hk hrk hown8 hne8 ho8 HOP HL7 HO7
  go_wp2_with fail
  refine (fuse_of HL8.out.st 0 30 (by decide)).mono ?_
  rintro e w9 ⟨rfl, hs9, ho9⟩
  have hka := HL8.out.jn.away HL8.out.st
  have hma := own_away (v := .slice ma 2 mc) HM8.out HL8.out.st HL8.out.jn
  have HMA : Hid (∀ g, (Value.slice ma 2 mc).ownBlock = some g → (g ≠ p ∧ g ≠ b ∧ g ≠ k) ∧ rk ≠ some g) := fun g hg => ⟨hma g hg, HE8.out g hg⟩
  have HL9 : Hid (Live w9 p b k rk (s8.setFuse 0 30) 0 s4.n ([] ++ [[97]] ++ [[98, 98]])) := ⟨hs9, HL8.out.jn.only ho9 (by simp; exact hka.1.1) (by simp; exact fun g hg => (hka.2.1 g hg).1), HL8.out.sd.setFuse 0 30 (by decide), HL8.out.up⟩
  have HJ9 : Hid (JnIs w9 j rb4 p 0 (St.new 4).n ([] ++ [[97]] ++ [[98, 98]]) (frames ([] ++ [[97]] ++ [[98, 98]])).length false) := HJ8.out.only ho9 (by simp; exact HAW.out.1.1) (by simp; exact fun g hg => (HAW.out.2 g hg).1)
  have HM9 := Lib.hid (own_keep (v := .slice ma 2 mc) HM8.out ho9 (by simp; exact fun g hg => (hma g hg).1))
  have HO9 : Hid (Only [] w w9) := HO8.out.trans ho9 (by simp; exact hpb.1)
  clear hs9 ho9 hka hma HL8 HF8 HJ8 HM8 HE8 HO8
  go_wp2_with fail
  refine (app_torn HL9.out rfl _ (by decide) (by decide) (by rw [aw_len2, HN4.out]; decide)).mono ?_
  rintro e w10 ⟨rfl, s10, P10, m10, t10, hP10, hT10, ho10, hs10, hk10, hm10, hsc10⟩
  have HK10 := Lib.hid hk10
  have HS10 := Lib.hid hs10
  have HN10 : Hid (s10.n = 4) := hT10.n.trans HN8.out
  have HM10 := Lib.hid hm10
  have HC10 : Hid (IsScan (partB s10 0 s10.n) m10 t10) := by
    show IsScan _ _ _
    rw [HN10.out, ← HN4.out]
    exact hsc10
  have HJ10 : Hid (JnIs w10 j rb4 p 0 (St.new 4).n ([] ++ [[97]] ++ [[98, 98]]) (frames ([] ++ [[97]] ++ [[98, 98]])).length false) := HJ9.out.only ho10
    (by simp; exact ⟨HAW.out.1.1, HAW.out.1.2, HA.out.1, fun h => HA.out.2.1 j h rfl⟩) (by simp; exact fun g hg => ⟨(HAW.out.2 g hg).1, (HAW.out.2 g hg).2, (HA.out.2.2 g hg).1, fun h => (HA.out.2.2 g hg).2 g h rfl⟩)
  have HR10 := Lib.hid (own_keep HM9.out ho10 (by simp; exact fun g hg => ⟨(HMA.out g hg).1.1, (HMA.out g hg).1.2.1, (HMA.out g hg).1.2.2, (HMA.out g hg).2⟩))
  have HO10 : Hid (Only [] w w10) := only_own HO9.out ho10 hpb HK.out.1 HK.out.2
  clear hP10 hT10 ho10 hs10 hk10 hm10 hsc10 HL9 HJ9 HM9 HO9
  go_wp2_with fail
  refine (app_over HK10.out (by rw [HN4.out]; decide) (by rw [HN4.out, aw_len2]; decide) _ (by decide) (by decide) (by rw [HN4.out, aw_len2]; decide)).mono ?_
  rintro e w11 ⟨rfl, ho11⟩
  have HS11 : Hid (StoreIs w11 p b s10) := HS10.out.only ho11 (by simp) (by simp)
  have HJ11 : Hid (JnIs w11 j rb4 p 0 (St.new 4).n ([] ++ [[97]] ++ [[98, 98]]) (frames ([] ++ [[97]] ++ [[98, 98]])).length false) := HJ10.out.only ho11 (by simp) (by simp)
  have HR11 := Lib.hid (own_keep HR10.out ho11 (by simp))
  have HO11 : Hid (Only [] w w11) := HO10.out.tr ho11
  clear ho11 HK10 HS10 HJ10 HR10 HO10
  go_wp2_with fail
  refine (records_up HS11.out HC10.out).mono ?_
  rintro e w12 ⟨x, rfl, hx12, ho12⟩
  have HX12 := Lib.hid hx12
  have HS12 : Hid (StoreIs w12 p b s10) := HS11.out.only ho12 (by simp) (by simp)
  have HJ12 : Hid (JnIs w12 j rb4 p 0 (St.new 4).n ([] ++ [[97]] ++ [[98, 98]]) (frames ([] ++ [[97]] ++ [[98, 98]])).length false) := HJ11.out.only ho12 (by simp) (by simp)
  have HR12 := Lib.hid (own_keep HR11.out ho12 (by simp))
  have HO12 : Hid (Only [] w w12) := HO11.out.tr ho12
  clear ho12 hx12 HS11 HJ11 HR11 HO11
  go_wp2_with fail
  refine (up_of HS12.out).mono ?_
  rintro e w13 ⟨rfl, hs13, ho13⟩
  have hxa := own_away HX12.out HS12.out HJ12.out
  have hra := own_away HR12.out HS12.out HJ12.out
  have HS13 := Lib.hid hs13
  have HX13 := Lib.hid (own_keep HX12.out ho13 (by simp; exact fun g hg => (hxa g hg).1))
  have HR13 := Lib.hid (own_keep HR12.out ho13 (by simp; exact fun g hg => (hra g hg).1))
  have HJ13 : Hid (JnIs w13 j rb4 p 0 (St.new 4).n ([] ++ [[97]] ++ [[98, 98]]) (frames ([] ++ [[97]] ++ [[98, 98]])).length false) := HJ12.out.only ho13 (by simp; exact HAW.out.1.1) (by simp; exact fun g hg => (HAW.out.2 g hg).1)
  have HO13 : Hid (Only [] w w13) := HO12.out.trans ho13 (by simp; exact hpb.1)
  clear ho13 hs13 hxa hra HX12 HS12 HJ12 HR12 HO12
  go_wp2_with fail
  refine (open_up HS13.out rfl rfl (l := m10) (t := t10) HC10.out).mono ?_
  rintro e w14 ⟨s14, q, rq, n, rfl, hl14, hfu14, ⟨P14, hP14, hT14⟩, hq, hrq, hown14, hne14, ho14⟩
  obtain ⟨na, nc, rfl, hr14⟩ := RowS.of_own hown14
  have hxa := own_away HX13.out HS13.out HJ13.out
  have hra := own_away HR13.out HS13.out HJ13.out
  have HX14 := Lib.hid (own_keep HX13.out ho14 (by simp; exact fun g hg => ⟨(hxa g hg).1, (hxa g hg).2.1⟩))
  have HR14 := Lib.hid (own_keep HR13.out ho14 (by simp; exact fun g hg => ⟨(hra g hg).1, (hra g hg).2.1⟩))
  have HJ14 : Hid (JnIs w14 j rb4 p 0 (St.new 4).n ([] ++ [[97]] ++ [[98, 98]]) (frames ([] ++ [[97]] ++ [[98, 98]])).length false) := HJ13.out.only ho14 (by simp; exact HAW.out.1) (by simp; exact fun g hg => HAW.out.2 g hg)
  have HO14 : Hid (Only [] w w14) := HO13.out.trans ho14 (by simp; exact hpb)
  have HW14 := Lib.hid hown14
  have hlen : m10.length = 2 ∨ m10.length = 3 := by rcases HM10.out with h | h <;> rw [h] <;> simp
  have HLEN := Lib.hid hlen
  clear hr14 hl14 hfu14 hP14 hT14 hq hrq hown14 hne14 ho14 hxa hra HX13 HR13 HJ13 HO13 HS13 hlen
  go_wp2_with fail
  have hO15 : Only [] w14 (w14.alloc (.cells #[.string { data := #[97] }, .string { data := #[98, 98] }] 9)) := (Only.refl [] w14).alloc _
  refine (Same_eq (l := [] ++ [[97]] ++ [[98, 98]]) (RowS.only (v := .slice ma 2 mc) HR14.out hO15 (by simp)) (aw_pair w14 _) (by decide)).mono ?_
  rintro e w15 ⟨rfl, ho15⟩
  have hO := hO15.tr ho15
  have HX15 := Lib.hid (own_keep HX14.out hO (by simp))
  have HJ15 := Lib.hid (HJ14.out.only hO (by simp) (by simp))
  have HO15 : Hid (Only [] w w15) := HO14.out.tr hO
  have HW15 := Lib.hid (own_keep HW14.out hO (by simp))
  clear hO15 ho15 hO HX14 HR14 HJ14 HO14 HW14
  go_wp2_with fail
  refine (Same_eq (l := m10) (RowS.of_own HW15.out) (RowS.of_own HX15.out) (by rcases HLEN.out with h | h <;> rw [h] <;> decide)).mono ?_
  rintro e w16 ⟨rfl, ho16⟩
  have HJ16 := Lib.hid (HJ15.out.only ho16 (by simp) (by simp))
  have HO16 : Hid (Only [] w w16) := HO15.out.tr ho16
  clear ho16 HX15 HJ15 HO15 HW15
  obtain ⟨M, hM⟩ : ∃ M : Nat, M = m10.length := ⟨_, rfl⟩
  rw [← hM] at HLEN ⊢
  clear hM
  have HE : Hid (Calls Try.prog 26 #[.pointer (some ⟨j, 0, none⟩)] w16 fun e w' => ∃ v', e = .returned v' ∧ w'.ownsRow w16.heap.size 9 1 v' 2 (([] ++ [[97]] ++ [[98, 98]] : List Bs).map strV) ∧ Below w16.heap.size w16 w') := jrecords_of HJ16.out (by decide)
  rcases HLEN.out with rfl | rfl
  all_goals
    go_wp2_with fail
    refine (HE.out).mono ?_
    rintro e w17 ⟨y, rfl, hy, hb17⟩
    have hO17 : Only [] w17 (w17.alloc (.cells #[.string { data := #[97] }, .string { data := #[98, 98] }] 9)) := (Only.refl [] w17).alloc _
    have HY := Lib.hid hy
    have HO17 : Hid (Only [] w w17) := HO16.out.tr (Only.of_below hb17)
    clear hy hb17
    go_wp2_with fail
    refine (Same_eq (l := [] ++ [[97]] ++ [[98, 98]]) (RowS.only HY.out hO17 (by simp)) (aw_pair w17 _) (by decide)).mono ?_
    rintro e w18 ⟨rfl, ho18⟩
    have HO18 : Hid (Only [] w w18) := HO17.out.tr (hO17.tr ho18)
    clear hO17 ho18
    go_wp2_with fail
    go_ret
    exact ⟨rfl, HO18.out⟩
end Go.Proofs.Ytngcdkbnljoodaa
