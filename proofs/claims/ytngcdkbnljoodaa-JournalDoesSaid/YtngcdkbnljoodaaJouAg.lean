/- JournalAgain's walk: its parts. No conditions beyond those typed. -/
import Derived.Test.YtngcdkbnljoodaaJouSu
namespace Go.Proofs.Ytngcdkbnljoodaa
set_option linter.unusedVariables false
set_option linter.unusedSimpArgs false
open Go.RowKit Go.Proofs.YtngcdkbnljoodaaW.PrintWords

/-- Opening, whatever the fuse: the records stay. -/
theorem open_any {w : World} {p b n : Nat} {s : St} (h : StoreIs w p b s) (hn : s.n = n) {l : List Bs} {t : Bs} (hsc : IsScan (partB s 0 n) l t) :
    Calls Try.prog 10 #[.pointer (some ⟨p, 0, none⟩)] w fun e w' => ∃ (x y z : Value) (s' : St) (t' : Bs), e = .returned (.tuple #[x, y, z]) ∧ StoreIs w' p b s' ∧ s'.n = n ∧ IsScan (partB s' 0 n) l t' ∧ Only [p, b] w w' := by
  subst hn
  have hh : s.Has 0 s.n := ⟨h.wf.lo, by omega⟩
  refine (open_of h).mono ?_
  rintro e w' ⟨ho, (⟨hB, _⟩ | ⟨a, c, l', t', ha, hc, _, hsc', hs', hr⟩)⟩
  · rw [show (0 : Int) = ((0 : Nat) : Int) from rfl, isB_has hh] at hB; cases hB
  · obtain rfl : a = 0 := by omega
    obtain rfl : c = s.n := by omega
    obtain ⟨rfl, _⟩ := IsScan.uniq hsc hsc'
    obtain ⟨P, hP, hT, hor, hok⟩ := open_ok h.wf hh hsc
    have hsc2 : ∃ t2, IsScan (partB (openS s 0 s.n (frames l).length).1 0 s.n) l t2 := by
      rcases hor with ⟨_, hsd, _⟩ | ⟨_, _, t2, h2⟩
      · exact ⟨_, hsd.scan⟩
      · exact ⟨t2, by rw [hT.part h.wf hh hP]; exact h2⟩
    obtain ⟨t2, h2⟩ := hsc2
    rcases hr with ⟨_, rfl⟩ | ⟨_, j, rb, v, _, _, rfl, _⟩
    · exact ⟨_, _, _, _, t2, rfl, hs', hT.n, h2, ho⟩
    · exact ⟨_, _, _, _, t2, rfl, hs', hT.n, h2, ho⟩
/-- A write while no fuse burns. -/
theorem write_up {w : World} {p b i : Nat} {s : St} (h : StoreIs w p b s) (hd : s.down = false) (hf : s.fuse = -1) (hi : i < s.n) (d : ByteArray) (hl : d.size = 32) :
    Calls Try.prog 18 #[.pointer (some ⟨p, 0, none⟩), .int .i64 (i : Int), .string d] w fun e w' => e = .returned (.int .i64 0) ∧ StoreIs w' p b { s with bs := splice s.bs (32 * i) d.data.toList, fuse := -1 } ∧ Only [p, b] w w' := by
  have hm : s.may (i : Int) = 0 := by unfold St.may; rw [hd, if_neg (by decide), if_neg (by omega)]
  have hw : s.write (i : Int) d.data.toList = ({ s with bs := splice s.bs (32 * i) d.data.toList, fuse := -1 }, 0) := by
    have hdl : d.data.toList.length = 32 := hl
    unfold St.write
    rw [if_neg (by rw [hm]; decide), if_neg (by omega), if_neg (by rw [hf]; decide), hf]
    rfl
  refine (write_of h (i : Int) d).mono ?_
  rintro e w' ⟨rfl, hs, ho⟩
  rw [hw] at hs ⊢
  exact ⟨rfl, hs, ho⟩
/-- The journal while records are appended and no fuse burns. -/
def AgIn (w0 wr : World) (p b j nb B : Nat) : Prop :=
  ∃ rb s ls, Live wr p b j rb s 0 nb ls ∧ s.n = nb ∧ s.fuse = -1 ∧ (frames ls).length ≤ B ∧ (∀ g, rb = some g → w0.heap.size ≤ g) ∧ Only [] w0 wr
theorem ag_step {w0 w : World} {p b j nb B : Nat} (h : AgIn w0 w p b j nb B) (hpb : w0.heap.size ≤ p ∧ w0.heap.size ≤ b) (hj : w0.heap.size ≤ j) (y : Bs) (hroom : B + (y.length + 8) ≤ 32 * nb) :
    Calls Try.prog 12 #[.pointer (some ⟨j, 0, none⟩), .string (mkS y)] w fun e w' => ∃ c : Int, e = .returned (.int .i64 c) ∧ AgIn w0 w' p b j nb (B + (y.length + 8)) := by
  have hsz := size_mkS y
  have hli := list_mkS y
  obtain ⟨rb, s, ls, hl, hn, hf, hB, hrb, ho⟩ := h
  by_cases hb : (mkS y).size = 0 ∨ 400 < (mkS y).size
  · refine (append_bad (mkS y) hb).mono ?_
    rintro e _ ⟨rfl, rfl⟩
    exact ⟨3, rfl, rb, s, ls, hl, hn, hf, by omega, hrb, ho⟩
  · refine (app_sure hl hf (mkS y) (by omega) (by omega) (by omega)).mono ?_
    rintro e w' ⟨rfl, s', P, rb', hP, hT, ho', hrb', hl', hfu⟩
    rw [hli] at hl'
    exact ⟨0, rfl, rb', s', ls ++ [y], hl', hT.n.trans hn, hfu, by rw [frames_snoc, List.length_append, frameL_length]; omega, rb_ge ho hrb hrb', only_own ho ho' hpb hj hrb⟩
theorem AgIn.le {w0 w : World} {p b j nb B B' : Nat} (h : AgIn w0 w p b j nb B) (hB : B ≤ B') : AgIn w0 w p b j nb B' := by
  obtain ⟨rb, s, ls, hl, hn, hf, hb, hrb, ho⟩ := h
  exact ⟨rb, s, ls, hl, hn, hf, by omega, hrb, ho⟩
theorem AgIn.on {w0 w : World} {p b j nb B : Nat} (h : AgIn w0 w p b j nb B) : Only [] w0 w := by
  obtain ⟨_, _, _, _, _, _, _, _, ho⟩ := h
  exact ho
/-- The store while its blocks are written anew. -/
def AgW (w0 wr : World) (p b nb : Nat) (N O : Bs) (i : Nat) : Prop :=
  ∃ s : St, StoreIs wr p b s ∧ s.n = nb ∧ s.down = false ∧ s.fuse = -1 ∧ s.bs = N.take (32 * i) ++ O.drop (32 * i) ∧ Only [] w0 wr
theorem AgW.only {w0 w w' : World} {p b nb i : Nat} {N O : Bs} (h : AgW w0 w p b nb N O i) (ho : Only [] w w') : AgW w0 w' p b nb N O i := by
  obtain ⟨s, hs, hn, hd, hf, hbs, ho'⟩ := h
  exact ⟨s, hs.only ho (by simp) (by simp), hn, hd, hf, hbs, ho'.tr ho⟩
theorem agw_step {w0 w : World} {p b nb i : Nat} {N O : Bs} (h : AgW w0 w p b nb N O i) (hpb : w0.heap.size ≤ p ∧ w0.heap.size ≤ b) (hN : N.length = 32 * nb) (hO : O.length = 32 * nb) (hi : i < nb) :
    Calls Try.prog 18 #[.pointer (some ⟨p, 0, none⟩), .int .i64 (i : Int), .string (mkS (blk N i))] w fun e w' => e = .returned (.int .i64 0) ∧ AgW w0 w' p b nb N O (i + 1) := by
  obtain ⟨s, hs, hn, hd, hf, hbs, ho⟩ := h
  have hbl := blk_length N nb i hN hi
  refine (write_up hs hd hf (by omega) (mkS (blk N i)) (by rw [size_mkS, hbl])).mono ?_
  rintro e w' ⟨rfl, hs', ho'⟩
  refine ⟨rfl, _, hs', hn, hd, rfl, ?_, ho.trans ho' (by simp; exact hpb)⟩
  show splice s.bs (32 * i) (mkS (blk N i)).data.toList = _
  have h2 := splice_step N O nb i 32 hN hO hi (Nat.le_refl _)
  rw [show (blk N i).take 32 = blk N i from List.take_of_length_le (by omega)] at h2
  rw [hbs, list_mkS, h2]
  rfl
set_option maxHeartbeats 4000000 in
set_option maxRecDepth 100000 in
theorem JournalAgain_walk (v : Value) (l : List Bs) (rest : ByteArray) (a1 a2 : Int) (w : World) (hv : RowS w v l) (hl : l.length * 16 ≤ 140737488351232) (hx : ∀ x ∈ l, x.length ≤ 140737488351232) (hr : rest.size ≤ 140737488351232) (h1 : 0 ≤ a1 ∧ a1 ≤ 255) (h2 : 0 ≤ a2 ∧ a2 ≤ 255) :
    Calls Try.prog 5 #[v, .string rest, .int .u8 a1, .int .u8 a2] w fun e w' => e = .returned (.bool true) ∧ Below w.heap.size w w' := by
  obtain ⟨a, ca, rfl, hc⟩ := hv
  obtain ⟨L, hL⟩ : ∃ L, L = l.length := ⟨_, rfl⟩
  rw [← hL] at hl ⊢
  have HL := Lib.hid hL
  have HC := Lib.hid hc
  have HX := Lib.hid hx
  clear hL hc hx
  go_enter Try.func5, Try.ntmps5
  go_wp2_with fail
  refine (awake_of w).mono ?_
  rintro e w1 ⟨rfl, ho1⟩
  have HO1 := Lib.hid ho1
  clear ho1
  have HC1 := Lib.hid (row_keep HC.out HO1.out)
  go_wp2_with fail
  go_loopw [9, 31] (fun n i wr => ∃ (x : Int) (k : Nat), n = .int .i64 x ∧ i = .int .i64 (k : Int) ∧ k ≤ L ∧ Hid (L ≤ 20 → x = sumL (l.take k)) ∧ wr = w1) (fun _ i _ => L - (intOf i).toNat)
  case atStart => exact ⟨0, 0, rfl, rfl, Nat.zero_le _, Lib.hid (fun _ => by simp [sumL]), rfl⟩
  case round =>
    obtain ⟨x, k, rfl, rfl, hk, HS, rfl⟩ := hrel
    by_cases hkL : k < L
    · obtain ⟨y, hy⟩ : ∃ y, l[k]? = some y := ⟨_, List.getElem?_eq_getElem (by have := HL.out; omega)⟩
      obtain ⟨q, rfl, hcy⟩ := HC1.out k y hy
      unfold strV at hcy
      have hxy := HX.out y (List.mem_of_getElem? hy)
      have hmk : (mkS y).size = y.length := size_mkS y
      have HS2 : Hid (L ≤ 20 → wrap64 (x + (y.length : Int)) = sumL (l.take (k + 1))) := fun hL20 => by
        have h2 := sumL_le (l.take k) 140737488351232 (fun z hz => HX.out z (List.mem_of_mem_take hz))
        have h3 : (l.take k).length ≤ 20 := by rw [List.length_take]; omega
        have h4 : sumL (l.take k) ≤ 20 * 140737488351232 := Nat.le_trans h2 (Nat.mul_le_mul_right _ h3)
        rw [HS.out hL20, sumL_take l k y hy, IntWalk.wrap64_in _ (by omega)]
        omega
      have hc0 : (0 : Int) ≤ (k : Int) := by omega
      have hc1 : ((k : Int) < (L : Int)) := by omega
      have hwr : IntKind.i64.wrap ((k : Int) + 1) = (k : Int) + 1 := IntWalk.i64_in _ (by omega)
      have HY := Lib.hid hy
      clear hy hxy
      go_wp2_with fail
      go_roundw
      case rel => exact ⟨_, k + 1, rfl, rfl, by omega, HS2, trivial⟩
      case measure => simp [intOf]; omega
    · have hkk : k = L := by omega
      subst hkk
      have HT : Hid (k ≤ 20 → x = sumL l) := fun h => by rw [HS.out h, HL.out, List.take_length]
      have HN : Hid (Calls Try.prog 8 #[.int .i64 80] wr fun e w' => e = .returned (.tuple #[.pointer (some ⟨wr.heap.size + 1, 0, none⟩), .int .i64 0]) ∧ StoreIs w' (wr.heap.size + 1) wr.heap.size (St.new 80) ∧ Only [] wr w') := new_up 80 (by decide) (by decide) wr
      obtain ⟨p, hp⟩ : ∃ p, p = wr.heap.size + 1 := ⟨_, rfl⟩
      obtain ⟨b, hb⟩ : ∃ b, b = wr.heap.size := ⟨_, rfl⟩
      rw [← hp, ← hb] at HN
      have hpb : w.heap.size ≤ p ∧ w.heap.size ≤ b := by have := HO1.out.size; omega
      clear hp hb HS hk hkL HC1
      go_wp2_with fail
      refine (HN.out).mono ?_
      rintro e w2 ⟨rfl, hs2, ho2⟩
      have HS2 := Lib.hid hs2
      have HO2 : Hid (Only [] w w2) := HO1.out.tr ho2
      clear hs2 ho2 HN HO1
      by_cases hx3 : 1000 < x
      · go_wp2_with fail
        go_ret
        exact ⟨rfl, HO2.out.below (Nat.le_refl _) (by simp)⟩
      · by_cases hL20 : 10 < (k : Int)
        · go_wp2_with fail
          go_ret
          exact ⟨rfl, HO2.out.below (Nat.le_refl _) (by simp)⟩
        · by_cases hr5 : 500 < (rest.size : Int)
          · go_wp2_with fail
            go_ret
            exact ⟨rfl, HO2.out.below (Nat.le_refl _) (by simp)⟩
          · have HT2 : Hid (k ≤ 10 ∧ sumL l ≤ 1000 ∧ rest.size ≤ 500) := ⟨by omega, by have := HT.out (by omega); omega, by omega⟩
            clear HT
            go_wp2_with fail
            refine (open_up HS2.out rfl rfl (scan_new 80 (by decide) (by decide))).mono ?_
            rintro e w3 ⟨s3, j, rb, v3, rfl, hl3, hfu3, ⟨P3, hP3, hT3⟩, hj, hrb, hown3, hne3, ho3⟩
            obtain ⟨va, vc, rfl, hr3⟩ := RowS.of_own hown3
            have HJJ : Hid (w.heap.size ≤ j) := by have := HO2.out.size; show _ ≤ _; omega
            have HI : Hid (AgIn w w3 p b j 80 0) := ⟨rb, s3, [], hl3, hT3.n, hfu3, by simp [frames_nil], fun g hg => by have := HO2.out.size; have := hrb g hg; omega, HO2.out.trans ho3 (by simp; omega)⟩
            clear hr3 hl3 hfu3 hP3 hT3 hj hrb hown3 hne3 ho3 HS2 HO2 hx3 hL20 hr5
            go_wp2_with fail
            go_loopw [74] (fun i wq => ∃ q : Nat, i = .int .i64 (q : Int) ∧ q ≤ k ∧ Hid (AgIn w wq p b j 80 (sumL (l.take q) + 8 * q))) (fun i _ => k - (intOf i).toNat)
            case atStart => exact ⟨0, rfl, Nat.zero_le _, HI⟩
            case round =>
              obtain ⟨q, rfl, hq, HI2⟩ := hrel
              by_cases hqk : q < k
              · obtain ⟨y, hy⟩ : ∃ y, l[q]? = some y := ⟨_, List.getElem?_eq_getElem (by have := HL.out; omega)⟩
                obtain ⟨ad, rfl, hcy⟩ := row_keep HC.out HI2.out.on q y hy
                unfold strV at hcy
                have hst := sumL_take l q y hy
                have hle := sumL_take_le l (q + 1)
                have HST := Lib.hid (ag_step HI2.out hpb HJJ.out y (by have := HT2.out; omega))
                have HE : Hid (sumL (l.take q) + 8 * q + (y.length + 8) ≤ sumL (l.take (q + 1)) + 8 * (q + 1)) := by show _ ≤ _; omega
                have hc0 : (0 : Int) ≤ (q : Int) := by omega
                have hc1 : ((q : Int) < (k : Int)) := by omega
                have hwr : IntKind.i64.wrap ((q : Int) + 1) = (q : Int) + 1 := IntWalk.i64_in _ (by omega)
                clear hy hst hle
                go_wp2_with fail
                refine (HST.out).mono ?_
                rintro e w5 ⟨c, rfl, hi5⟩
                have HI5 := Lib.hid (hi5.le HE.out)
                clear hi5
                go_wp2_with fail
                go_roundw
                case rel => exact ⟨q + 1, rfl, by omega, HI5⟩
                case measure => simp [intOf]; omega
              · have hqq : q = k := by omega
                subst hqq
                have hle := sumL_take_le l q
                obtain ⟨rb5, s5, ls, hl5, hn5, hf5, hB5, hrb5, ho5⟩ := HI2.out
                obtain ⟨wz, hwz⟩ : ∃ wz, Hid (AgIn w wz p b j 80 (sumL (l.take q) + 8 * q)) := ⟨_, HI2⟩
                have hlen := hl5.sd.wf.len
                rw [hn5] at hlen
                obtain ⟨F, hF⟩ : ∃ F, F = (frames ls).length := ⟨_, rfl⟩
                have HFB : Hid (F ≤ 1080) := by have := HT2.out; show _ ≤ _; omega
                obtain ⟨A, hA⟩ : ∃ A, A = mkS s5.bs := ⟨_, rfl⟩
                have hAs : A.size = 2560 := by rw [hA, size_mkS]; omega
                have HBY := Lib.hid (bytes_of hl5.st)
                rw [← hA] at HBY
                have HLV := Lib.hid hl5
                have HN5 := Lib.hid hn5
                have HF5 := Lib.hid hf5
                have HO5 := Lib.hid ho5
                have HFF := Lib.hid hF
                have HAA := Lib.hid hA
                have HAS := Lib.hid hAs
                have hsl : rest.data.toList.length = rest.size := rfl
                have hrs := HT2.out.2.2
                obtain ⟨T, hT⟩ : ∃ T, T = F + rest.size := ⟨_, rfl⟩
                obtain ⟨N, hN⟩ : ∃ N, N = s5.bs.take F ++ rest.data.toList ++ s5.bs.drop T := ⟨_, rfl⟩
                have hFle : F ≤ 1080 := HFB.out
                have hNl : N.length = 32 * 80 := by rw [hN, List.length_append, List.length_append, List.length_take, List.length_drop]; omega
                obtain ⟨X1, hX1⟩ : ∃ X1, X1 = mkS (s5.bs.take F) := ⟨_, rfl⟩
                obtain ⟨X2, hX2⟩ : ∃ X2, X2 = mkS (s5.bs.drop T) := ⟨_, rfl⟩
                obtain ⟨Y, hY⟩ : ∃ Y, Y = mkS (s5.bs.take F ++ rest.data.toList) := ⟨_, rfl⟩
                obtain ⟨M2, hM2⟩ : ∃ M2, M2 = mkS N := ⟨_, rfl⟩
                have eX1 : A.extract 0 F = X1 := by rw [mkS_extract, hA, list_mkS, hX1]; rfl
                have eX2 : A.extract T A.size = X2 := by rw [mkS_extract, hAs, hA, list_mkS, hX2, List.take_of_length_le (by rw [List.length_drop]; omega)]
                have eY : X1 ++ rest = Y := by rw [hX1, hY, ← mkS_list rest, mkS_append, list_mkS]
                have eM : Y ++ X2 = M2 := by rw [hY, hX2, hM2, mkS_append, hN]
                have z1 : X1.size ≤ 100000 := by rw [hX1, size_mkS, List.length_take]; omega
                have z2 : X2.size ≤ 100000 := by rw [hX2, size_mkS, List.length_drop]; omega
                have z3 : Y.size ≤ 100000 := by rw [hY, size_mkS, List.length_append, List.length_take]; omega
                have hM2s : M2.size = 2560 := by rw [hM2, size_mkS]; omega
                have r1 : ∀ W : World, (Op.stringOp .add X1 rest).run Try.prog W = .ok (.string Y) W := fun W => by rw [run_string_add_sum W X1 rest (by omega), eY]
                have r2 : ∀ W : World, (Op.stringOp .add Y X2).run Try.prog W = .ok (.string M2) W := fun W => by rw [run_string_add_sum W Y X2 (by omega), eM]
                have r3 : (9223372036854775807 < X1.size + rest.size) = False := eq_false (by omega)
                have r4 : (9223372036854775807 < Y.size + X2.size) = False := eq_false (by omega)
                obtain ⟨R, hR⟩ : ∃ R : Int, R = 32 * ((80 : Nat) : Int) - (F : Int) := ⟨_, rfl⟩
                have hsub : IntKind.i64.wrap ((A.size : Int) - R) = (F : Int) := by rw [IntWalk.i64_in _ (by omega)]; omega
                have hsT : IntKind.i64.wrap ((F : Int) + (rest.size : Int)) = (T : Int) := by rw [IntWalk.i64_in _ (by omega)]; omega
                have hf0 : (0 : Int) ≤ (F : Int) := by omega
                have hT0 : (0 : Int) ≤ (T : Int) := by omega
                have hFA : (F : Int) ≤ (A.size : Int) := by omega
                have hTA : (T : Int) ≤ (A.size : Int) := by omega
                have HNL := Lib.hid hNl
                have HR := Lib.hid hR
                have HM2 := Lib.hid hM2
                have HM2S := Lib.hid hM2s
                obtain ⟨O, hO⟩ : ∃ O, O = s5.bs := ⟨_, rfl⟩
                have HOO := Lib.hid hO
                have HOL : Hid (O.length = 32 * 80) := by show O.length = _; rw [hO]; exact hlen
                clear hsl hrs hT hN hFle hNl hX1 hX2 hY hM2 z1 z2 z3 hM2s hR hO eY eM
                clear hle hl5 hn5 hf5 hB5 hrb5 ho5 hwz hlen hF hA hAs HI2
                go_wp2_with fail
                refine (HBY.out).mono ?_
                rintro e w6 ⟨rfl, hb6⟩
                have HLV6 := Lib.hid (HLV.out.only (Only.of_below (S := []) hb6) (by simp) (by simp) (by simp) (by simp))
                have HO6 := Lib.hid (HO5.out.tr (Only.of_below hb6))
                clear hb6 HBY HLV HO5
                go_wp2_with fail
                refine (live_room HLV6.out).mono ?_
                rintro e w7 ⟨rfl, ho7⟩
                rw [← HFF.out, ← HR.out]
                have HI7 : Hid (AgW w w7 p b 80 N O 0) := ⟨s5, (HLV6.out.only ho7 (by simp) (by simp) (by simp) (by simp)).st, HN5.out, HLV6.out.up, HF5.out, by rw [HOO.out]; simp, HO6.out.tr ho7⟩
                clear ho7 HLV6 HO6
                go_wp2_with fail
                go_quiet (fail)
                go_wp2_with fail
                go_loopw [19] (fun i wq => ∃ q : Nat, i = .int .i64 (q : Int) ∧ q ≤ 80 ∧ Hid (AgW w wq p b 80 N O q)) (fun i _ => 80 - (intOf i).toNat)
                case atStart => exact ⟨0, rfl, Nat.zero_le _, Lib.hid (HI7.out.only ((Only.refl _ _).drewN _))⟩
                case round =>
                  obtain ⟨i, rfl, hi80, HI8⟩ := hrel
                  by_cases hi : i < 80
                  · have HST := Lib.hid (agw_step HI8.out hpb HNL.out HOL.out hi)
                    obtain ⟨lo, hlo⟩ : ∃ lo : Nat, lo = 32 * i := ⟨_, rfl⟩
                    obtain ⟨up, hup⟩ : ∃ up : Nat, up = 32 * i + 32 := ⟨_, rfl⟩
                    have q1 : IntKind.i64.wrap (32 * (i : Int)) = (lo : Int) := by rw [IntWalk.i64_in _ (by omega)]; omega
                    have q2 : IntKind.i64.wrap ((lo : Int) + 32) = (up : Int) := by rw [IntWalk.i64_in _ (by omega)]; omega
                    have q3 : M2.extract lo up = mkS (blk N i) := by rw [HM2.out, mkS_extract, list_mkS, hlo, hup, show 32 * i + 32 - 32 * i = 32 by omega]; rfl
                    have q4 : (0 : Int) ≤ (lo : Int) := by omega
                    have q5 : (lo : Int) ≤ (up : Int) := by omega
                    have q6 : (up : Int) ≤ (M2.size : Int) := by have := HM2S.out; omega
                    have q7 : (i : Int) < 80 := by omega
                    have q8 : IntKind.i64.wrap ((i : Int) + 1) = (i : Int) + 1 := IntWalk.i64_in _ (by omega)
                    clear hlo hup
                    go_wp2_with fail
                    refine (HST.out).mono ?_
                    rintro e w9 ⟨rfl, hi9⟩
                    have HI9 := Lib.hid hi9
                    clear hi9
                    go_wp2_with fail
                    go_roundw
                    case rel => exact ⟨i + 1, rfl, by omega, HI9⟩
                    case measure => simp [intOf]; omega
                  · obtain rfl : i = 80 := by omega
                    obtain ⟨s8, hs8, hn8, hd8, hf8, hbs8, ho8⟩ := HI8.out
                    obtain ⟨l8, t8, hsc8⟩ := isScan_exists _ (partB s8 0 80) (Nat.le_refl _)
                    have HS8 := Lib.hid hs8
                    have HN8 := Lib.hid hn8
                    have HC8 := Lib.hid hsc8
                    have HO8 := Lib.hid ho8
                    have hll : l8.length ≤ 1000000 := by
                      have h1 := frames_count l8
                      have h2 := congrArg List.length hsc8.eq
                      rw [List.length_append] at h2
                      have h3 : (partB s8 0 80).length ≤ 2560 := by unfold partB; rw [List.length_take]; omega
                      omega
                    have HLL := Lib.hid hll
                    clear hs8 hn8 hd8 hf8 hbs8 ho8 hsc8 hi80 hi hll r1 r2 r3 r4 hsub hsT hf0 hT0 hFA hTA eX1 eX2
                    go_wp2_with fail
                    refine (records_up HS8.out (l := l8) (t := t8) (by rw [HN8.out]; exact HC8.out)).mono ?_
                    rintro e w9 ⟨want, rfl, hw9, ho9⟩
                    have HW9 := Lib.hid hw9
                    have HS9 := Lib.hid (HS8.out.only ho9 (by simp) (by simp))
                    have HO9 := Lib.hid (HO8.out.tr ho9)
                    clear hw9 ho9
                    go_wp2_with fail
                    refine (fuse_of HS9.out _ _ ?_).mono ?_
                    · omega
                    rintro e w10 ⟨rfl, hs10, ho10⟩
                    have hus := own_store HW9.out HS9.out
                    have HW10 := Lib.hid (own_keep HW9.out ho10 (by simp; exact fun g hg => (hus g hg).1))
                    have HS10 := Lib.hid hs10
                    have HO10 : Hid (Only [] w w10) := HO9.out.trans ho10 (by simp; exact hpb.1)
                    clear hs10 ho10 hus
                    go_wp2_with fail
                    refine (open_any HS10.out (n := 80) HN8.out (l := l8) (t := t8) HC8.out).mono ?_
                    rintro e w11 ⟨ox, oy, oz, s11, t11, rfl, hs11, hn11, hsc11, ho11⟩
                    have hus := own_store HW10.out HS10.out
                    have HW11 := Lib.hid (own_keep HW10.out ho11 (by simp; exact fun g hg => hus g hg))
                    have HS11 := Lib.hid hs11
                    have HN11 := Lib.hid hn11
                    have HC11 := Lib.hid hsc11
                    have HO11 : Hid (Only [] w w11) := HO10.out.trans ho11 (by simp; exact hpb)
                    clear hs11 hn11 hsc11 ho11 hus
                    go_wp2_with fail
                    refine (up_of HS11.out).mono ?_
                    rintro e w12 ⟨rfl, hs12, ho12⟩
                    have hus := own_store HW11.out HS11.out
                    have HW12 := Lib.hid (own_keep HW11.out ho12 (by simp; exact fun g hg => (hus g hg).1))
                    have HS12 := Lib.hid hs12
                    have HO12 : Hid (Only [] w w12) := HO11.out.trans ho12 (by simp; exact hpb.1)
                    clear hs12 ho12 hus
                    go_wp2_with fail
                    refine (open_up HS12.out rfl rfl (l := l8) (t := t11) (by show IsScan (partB s11 0 s11.n) l8 t11; rw [HN11.out]; exact HC11.out)).mono ?_
                    rintro e w13 ⟨s13, j13, rb13, v13, rfl, hl13, hfu13, ⟨P13, hP13, hT13⟩, hj13, hrb13, hown13, hne13, ho13⟩
                    obtain ⟨na, nc, rfl, hr13⟩ := RowS.of_own hown13
                    have hus := own_store HW12.out HS12.out
                    have HW13 := Lib.hid (own_keep HW12.out ho13 (by simp; exact fun g hg => hus g hg))
                    have HN13 : Hid (s13.n = 80) := hT13.n.trans HN11.out
                    have HL13 := Lib.hid hl13
                    have HF13 := Lib.hid hfu13
                    have HM13 := Lib.hid hown13
                    have HO13 : Hid (Only [] w w13) := HO12.out.trans ho13 (by simp; exact hpb)
                    clear hr13 hl13 hfu13 hP13 hT13 hj13 hrb13 hown13 hne13 ho13 hus
                    go_wp2_with fail
                    refine (open_up HL13.out.st HL13.out.up HF13.out (l := l8) (t := zs (32 * s11.up.n - (frames l8).length)) (by have h := HL13.out.sd.scan; rw [HN13.out]; have e : s11.up.n = 80 := HN11.out; rw [e] at h ⊢; exact h)).mono ?_
                    rintro e w14 ⟨s14, j14, rb14, v14, rfl, hl14, hfu14, ⟨P14, hP14, hT14⟩, hj14, hrb14, hown14, hne14, ho14⟩
                    obtain ⟨ra, rc, rfl, hr14⟩ := RowS.of_own hown14
                    have hus := own_store HW13.out HL13.out.st
                    have hus2 := own_store HM13.out HL13.out.st
                    have HW14 := Lib.hid (own_keep HW13.out ho14 (by simp; exact fun g hg => hus g hg))
                    have HM14 := Lib.hid (own_keep HM13.out ho14 (by simp; exact fun g hg => hus2 g hg))
                    have HR14 := Lib.hid hown14
                    have HO14 : Hid (Only [] w w14) := HO13.out.trans ho14 (by simp; exact hpb)
                    clear hr14 hl14 hfu14 hP14 hT14 hj14 hrb14 hown14 hne14 ho14 hus hus2
                    go_wp2_with fail
                    refine (Same_eq (l := l8) (RowS.of_own HM14.out) (RowS.of_own HW14.out) HLL.out).mono ?_
                    rintro e w15 ⟨rfl, ho15⟩
                    have HW15 := Lib.hid (own_keep HW14.out ho15 (by simp))
                    have HR15 := Lib.hid (own_keep HR14.out ho15 (by simp))
                    have HO15 := Lib.hid (HO14.out.tr ho15)
                    clear ho15
                    go_wp2_with fail
                    refine (Same_eq (l := l8) (RowS.of_own HR15.out) (RowS.of_own HW15.out) HLL.out).mono ?_
                    rintro e w16 ⟨rfl, ho16⟩
                    have HO16 := Lib.hid (HO15.out.tr ho16)
                    clear ho16
                    go_wp2_with fail
                    go_ret
                    exact ⟨rfl, HO16.out.below (Nat.le_refl _) (by simp)⟩
end Go.Proofs.Ytngcdkbnljoodaa
