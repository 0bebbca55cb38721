/- The reference's Append walks. No conditions beyond those typed. -/
import Derived.Test.YtngcdkbnljoodaaGreatDoorRefC
import Derived.Test.YtngcdkbnljoodaaGreatDoorMrgB
namespace Go.Proofs.YtngcdkbnljoodaaGreatDoor
set_option linter.unusedVariables false
set_option linter.unusedSimpArgs false
open Go.RowKit Go.Proofs.YtngcdkbnljoodaaGreatDoorW.PrintWords

theorem take_get (B : Bs) (k : Nat) (hk : k < B.length) : B.take (k + 1) = B.take k ++ [B.getD k 0] := by
  rw [List.take_add_one, List.getD_eq_getElem?_getD, List.getElem?_eq_getElem hk]
  rfl
theorem blk_getD (B : Bs) (i k : Nat) (hk : k < 32) : (blk B i).getD k 0 = B.getD (32 * i + k) 0 := by
  unfold blk
  rw [List.getD_eq_getElem?_getD, List.getElem?_take, if_pos hk, List.getElem?_drop, List.getD_eq_getElem?_getD]
theorem app_get (all f : Bs) (fin i k : Nat) (hk : k < 32) (hf : fin ≤ all.length) : (blk (appAll all fin f) i).getD k 0 = if 32 * i + k < fin then (blk all i).getD k 0 else if 32 * i + k < fin + f.length then f.getD (32 * i + k - fin) 0 else 0 := by
  rw [blk_getD _ _ _ hk, blk_getD _ _ _ hk]
  have h1 : (all.take fin).length = fin := by rw [List.length_take]; omega
  unfold appAll
  rw [List.getD_eq_getElem?_getD]
  by_cases hA : 32 * i + k < fin
  · rw [if_pos hA, List.append_assoc, List.getElem?_append_left (by omega), List.getElem?_take, if_pos hA, List.getD_eq_getElem?_getD]
  · rw [if_neg hA]
    by_cases hB : 32 * i + k < fin + f.length
    · rw [if_pos hB, List.getElem?_append_left (by rw [List.length_append]; omega), List.getElem?_append_right (by omega), h1, List.getD_eq_getElem?_getD]
    · rw [if_neg hB, List.getElem?_append_right (by rw [List.length_append]; omega)]
      unfold zs
      rw [List.getElem?_replicate]
      split <;> rfl
theorem mkS_one (s : ByteArray) (k : Nat) (hk : k < s.size) : s.extract k (k + 1) = mkS [s.data.toList.getD k 0] := by
  rw [mkS_extract, show k + 1 - k = 1 by omega]
  congr 1
  have hl : k < s.data.toList.length := hk
  rw [List.drop_eq_getElem_cons hl, List.getD_eq_getElem?_getD, List.getElem?_eq_getElem hl]
  rfl
theorem RAppend_bad {w : World} {j : Nat} (s : ByteArray) (h : s.size = 0 ∨ 400 < s.size) :
    Calls Tryz.prog 40 #[.pointer (some ⟨j, 0, none⟩), .string s] w fun e w' => e = .returned (.int .i64 3) ∧ w = w' := by
  have HF := Lib.hid (RFrame_no s h w)
  go_enter Tryz.func40, Tryz.ntmps40
  go_wp2_with fail
  refine (HF.out).mono ?_
  rintro e _ ⟨rfl, rfl⟩
  go_wp2_with fail
  go_ret
  exact ⟨rfl, rfl⟩
set_option maxHeartbeats 2000000 in
set_option maxRecDepth 100000 in
theorem RAppend_not {w : World} {j q pf nb : Nat} {rb : Option Nat} {l : List Bs} {fin : Nat} {o : Bool} (h : JnR w j rb q pf nb l fin o) (hn : nb ≤ 256) (hf : fin ≤ 32 * nb) (s : ByteArray) (h1 : 1 ≤ s.size) (h2 : s.size ≤ 400)
    (hbad : 32 * nb < fin + (s.size + 8) ∨ o = true) :
    Calls Tryz.prog 40 #[.pointer (some ⟨j, 0, none⟩), .string s] w fun e w' => e = .returned (.int .i64 (if 32 * nb < fin + (s.size + 8) then 14 else 16)) ∧ Only [] w w' := by
  have HF := Lib.hid (RFrame_ok s h1 h2 w)
  have HH := Lib.hid h
  obtain ⟨FR, hFR⟩ : ∃ FR, FR = mkS (frameL s.data.toList) := ⟨_, rfl⟩
  rw [← hFR] at HF
  obtain ⟨L, hL⟩ : ∃ L : Nat, L = s.size + 8 := ⟨_, rfl⟩
  have hfs : FR.size = L := by rw [hFR, size_mkS, frameL_length, hL]; rfl
  obtain ⟨R, hR⟩ : ∃ R : Int, R = 32 * (nb : Int) - (fin : Int) := ⟨_, rfl⟩
  have HR := Lib.hid hR
  by_cases hroom : 32 * nb < fin + (s.size + 8)
  · rw [if_pos hroom]
    have hgt : R < (L : Int) := by omega
    clear hFR hL hR hroom hbad h
    go_enter Tryz.func40, Tryz.ntmps40
    go_wp2_with fail
    refine (HF.out).mono ?_
    rintro e w1 ⟨rfl, ho1⟩
    have HO1 := Lib.hid ho1
    clear ho1
    go_wp2_with fail
    refine (RRoom_of (HH.out.only HO1.out (by simp) (by simp)) hn hf).mono ?_
    rintro e w2 ⟨rfl, d, rfl⟩
    rw [← HR.out]
    go_wp2_with fail
    go_ret
    exact ⟨rfl, HO1.out.drewN d⟩
  · rw [if_neg hroom]
    have ho : o = true := by rcases hbad with h | h; exact absurd h hroom; exact h
    subst ho
    have hgt : ¬ R < (L : Int) := by omega
    clear hFR hL hR hroom hbad h
    go_enter Tryz.func40, Tryz.ntmps40
    go_wp2_with fail
    refine (HF.out).mono ?_
    rintro e w1 ⟨rfl, ho1⟩
    obtain ⟨v, hj, _⟩ := (HH.out.only ho1 (by simp) (by simp)).ex
    obtain ⟨c0, c1, c2, c3, c4, c5, f0, f1, f2, f3, f4, f5⟩ := jrF hj
    have HO1 := Lib.hid ho1
    clear ho1 hj
    go_wp2_with fail
    refine (RRoom_of (HH.out.only HO1.out (by simp) (by simp)) hn hf).mono ?_
    rintro e w2 ⟨rfl, d, rfl⟩
    rw [← HR.out]
    go_wp2_with fail
    go_ret
    exact ⟨rfl, HO1.out.drewN d⟩
/-- What an append that has room does. -/
def RAppPost (st : St) (j : Nat) (rb : Option Nat) (q g pf nb : Nat) (l : List Bs) (fin : Nat) (r : Bs) (w : World) (e : Ending) (w' : World) : Prop :=
  Only [q, g, j] w w' ∧ StR w' q g (appendS st pf nb fin (frameL r)).1 ∧ e = .returned (.int .i64 (appendS st pf nb fin (frameL r)).2) ∧
    (((appendS st pf nb fin (frameL r)).2 ≠ 0 ∧ JnR w' j rb q pf nb l fin true) ∨
      ((appendS st pf nb fin (frameL r)).2 = 0 ∧ ∃ rb', (∀ x, rb' = some x → w.heap.size ≤ x) ∧ JnR w' j rb' q pf nb (l ++ [r]) (fin + (r.length + 8)) false))
/-- Within the loop over blocks. -/
def RAppIn (w wr : World) (j q g : Nat) (st : St) (pf nb hi i0 i : Nat) (AA was : Bs) (v : Value) (fin : Nat) : Prop :=
  ∃ s', StR wr q g s' ∧ s'.n = st.n ∧ (∀ x, i ≤ x → x < nb → blk s'.bs (pf + x) = blk was x) ∧ putL pf AA was true (hi - i0) i0 st = putL pf AA was true (hi - i) i s' ∧
    wr.heap[j]? = some (.cells (jrC q pf nb v fin false) 111 (0, 0)) ∧ Only [q, g] w wr
theorem RAppIn.only {w wr w' : World} {j q g : Nat} {st : St} {pf nb hi i0 i : Nat} {AA was : Bs} {v : Value} {fin : Nat} (h : RAppIn w wr j q g st pf nb hi i0 i AA was v fin) (ho : Only [] wr w') : RAppIn w w' j q g st pf nb hi i0 i AA was v fin := by
  obtain ⟨s', h1, h2, h3, h4, h5, h6⟩ := h
  exact ⟨s', h1.only ho (by simp) (by simp), h2, h3, h4, ho.blk h5 (by simp), h6.tr (ho.mono (by simp))⟩
set_option maxHeartbeats 4000000 in
set_option maxRecDepth 100000 in
theorem RAppend_go {w : World} {j q g pf nb : Nat} {rb : Option Nat} {l : List Bs} {fin : Nat} {st : St} (hs : StR w q g st) (h : JnR w j rb q pf nb l fin false) (hh : st.Has pf nb) (hrg : ∀ x, rb = some x → x ≠ g) (s : ByteArray) (h1 : 1 ≤ s.size) (h2 : s.size ≤ 400)
    (hroom : fin + (s.size + 8) ≤ 32 * nb) (hlen : l.length ≤ 100000) :
    Calls Tryz.prog 40 #[.pointer (some ⟨j, 0, none⟩), .string s] w (RAppPost st j rb q g pf nb l fin s.data.toList w) := by
  obtain ⟨v, hj0, hown0, hrb, hnz⟩ := h.ex
  obtain ⟨rfl, _⟩ | ⟨gv, cv, rfl, _, _⟩ := own_cells hown0
  · exact absurd rfl hnz
  have HKEEP : Hid (∀ w', Only [q, g, j] w w' → w'.ownsRow 0 9 1 (.slice (some ⟨gv, 0, none⟩) l.length cv) l.length (l.map strV)) := fun w' ho => own_keep hown0 ho (fun x hx hm => by
    have hty := own_type hown0 hx
    obtain ⟨cap, m, hq⟩ := hs.head
    simp at hm
    rcases hm with rfl | rfl | rfl
    · exact ty_ne hty ⟨_, _, hq⟩ (by decide) rfl
    · exact hrg _ (hrb ▸ hx) rfl
    · exact ty_ne hty ⟨_, _, hj0⟩ (by decide) rfl)
  obtain ⟨M, hM⟩ : ∃ M, M = l.length := ⟨_, rfl⟩
  rw [← hM] at HKEEP hj0 hrb hlen
  have HM := Lib.hid hM
  have HJ0 := Lib.hid hj0
  have HRB := Lib.hid hrb
  clear hown0 hnz hM hj0 hrb
  have HF := Lib.hid (RFrame_ok s h1 h2 w)
  have hn : nb ≤ 256 := by have := hs.wf.hi; have := hh.2; omega
  have hpl := partB_length hs.wf hh
  have hhi : pf + nb ≤ st.n := hh.2
  have hst : st.n ≤ 256 := hs.wf.hi
  have HH := Lib.hid h
  have HS := Lib.hid hs
  have hfl := frameL_length s.data.toList
  have hsl : s.data.toList.length = s.size := rfl
  obtain ⟨f, hf⟩ : ∃ f, f = frameL s.data.toList := ⟨_, rfl⟩
  rw [← hf] at HF hfl
  obtain ⟨FR, hFR⟩ : ∃ FR, FR = mkS f := ⟨_, rfl⟩
  rw [← hFR] at HF
  obtain ⟨L, hL⟩ : ∃ L : Nat, L = s.size + 8 := ⟨_, rfl⟩
  have hfL : f.length = L := by rw [hfl, hL, hsl]
  have hfs : FR.size = L := by rw [hFR, size_mkS, hfL]
  obtain ⟨R, hR⟩ : ∃ R : Int, R = 32 * (nb : Int) - (fin : Int) := ⟨_, rfl⟩
  have hgt : ¬ R < (L : Int) := by omega
  obtain ⟨E, hE⟩ : ∃ E, E = fin + L := ⟨_, rfl⟩
  obtain ⟨I0, hI0⟩ : ∃ I0, I0 = fin / 32 := ⟨_, rfl⟩
  obtain ⟨hi, hhi2⟩ : ∃ hi, hi = (E + 31) / 32 := ⟨_, rfl⟩
  have hq1 : (fin : Int) / 32 = (I0 : Int) := by omega
  have wE : IntKind.i64.wrap ((fin : Int) + (L : Int)) = (E : Int) := by rw [IntWalk.i64_in _ (by omega)]; omega
  have hI0h : I0 ≤ hi := by omega
  have hhin : hi ≤ nb := by omega
  obtain ⟨AA, hAA⟩ : ∃ AA, AA = appAll (partB st pf nb) fin f := ⟨_, rfl⟩
  have hAl : AA.length = 32 * nb := by rw [hAA, appAll_length _ _ _ (by rw [hpl]; omega), hpl]
  have HAP : Hid (appendS st pf nb fin (frameL s.data.toList) = putL pf AA (partB st pf nb) true (hi - I0) I0 st) := by
    show _ = _
    unfold appendS
    rw [← hf, ← hAA, hhi2, hE, hI0, ← hfL]
  have HAG : Hid (∀ i k, k < 32 → (blk AA i).getD k 0 = if 32 * i + k < fin then (blk (partB st pf nb) i).getD k 0 else if 32 * i + k < E then f.getD (32 * i + k - fin) 0 else 0) := fun i k hk => by
    rw [hAA, app_get _ _ _ _ _ hk (by rw [hpl]; omega), hfL, ← hE]
  have HFRL : Hid (FR.data.toList = f) := by show _ = _; rw [hFR, list_mkS]
  have HRR := Lib.hid hR
  have HE := Lib.hid hE
  have HI0 := Lib.hid hI0
  have HHI := Lib.hid hhi2
  have HAL := Lib.hid hAl
  have HPL := Lib.hid hpl
  have HLL := Lib.hid hL
  have hEb : E ≤ 32 * nb := by omega
  have HFH : Hid (fin ≤ E) := by show _ ≤ _; omega
  clear hf hFR hL hR hE hI0 hhi2 hAA hAl hpl hfl hsl hfL h hs hroom
  go_enter Tryz.func40, Tryz.ntmps40
  go_wp2_with fail
  refine (HF.out).mono ?_
  rintro e w1 ⟨rfl, ho1⟩
  have hj := ho1.blk HJ0.out (by simp)
  obtain ⟨c0, c1, c2, c3, c4, c5, f0, f1, f2, f3, f4, f5⟩ := jrF hj
  have HO1 := Lib.hid ho1
  have HS1 := Lib.hid (HS.out.only ho1 (by simp) (by simp))
  have HJ1 := Lib.hid hj
  clear ho1 hj
  go_wp2_with fail
  refine (RRoom_of (HH.out.only HO1.out (by simp) (by simp)) hn (by have := HFH.out; omega)).mono ?_
  rintro e w2 ⟨rfl, d, rfl⟩
  rw [← HRR.out]
  have HI : Hid (RAppIn w (w1.drewN d) j q g st pf nb hi I0 I0 AA (partB st pf nb) (.slice (some ⟨gv, 0, none⟩) M cv) fin) :=
    ⟨st, HS1.out.only ((Only.refl [] w1).drewN d) (by simp) (by simp), rfl, fun x _ hx => (blk_partB st pf nb x hx).symm, rfl, HJ1.out, (HO1.out.drewN d).mono (by simp)⟩
  go_wp2_with fail
  clear c0 c1 c2 c3 c4 c5 f0 f1 f2 f3 f4 f5
  go_loopw [7] (fun i wq => ∃ k : Nat, k ≤ hi ∧ I0 ≤ k ∧ i = .int .i64 (k : Int) ∧ Hid (RAppIn w wq j q g st pf nb hi I0 k AA (partB st pf nb) (.slice (some ⟨gv, 0, none⟩) M cv) fin)) (fun i _ => hi - (intOf i).toNat)
  case atStart => exact ⟨I0, hI0h, Nat.le_refl _, rfl, HI⟩
  case round =>
    obtain ⟨i, hihi, hI0i, rfl, HI⟩ := hrel
    obtain ⟨s', hs', hn', hb', hp', hj', ho'⟩ := HI.out
    obtain ⟨c0, c1, c2, c3, c4, c5, f0, f1, f2, f3, f4, f5⟩ := jrF hj'
    obtain ⟨I32, hI32⟩ : ∃ I32, I32 = 32 * i := ⟨_, rfl⟩
    have w32 : IntKind.i64.wrap (32 * (i : Int)) = (I32 : Int) := by rw [IntWalk.i64_in _ (by omega)]; omega
    by_cases hi2 : i < hi
    · have hinb : i < nb := by omega
      have hwf' := hs'.wf
      have HS' := Lib.hid hs'
      obtain ⟨hwf, hne, ⟨cap', m', hq⟩, ⟨cur, hg, hc⟩⟩ := hs'
      obtain ⟨b0, b1, b2, b3, b4, e0, e1, e2, e3, e4⟩ := refF hq
      have hjq : j ≠ q := blk_ne hj' hq (by decide)
      have hjg : j ≠ g := blk_ne hj' hg (by decide)
      obtain ⟨K, hK⟩ : ∃ K, K = pf + i := ⟨_, rfl⟩
      obtain ⟨X, hX⟩ : ∃ X, X = mkS (blk (partB st pf nb) i) := ⟨_, rfl⟩
      have hbl : (blk (partB st pf nb) i).length = 32 := blk_length _ nb i HPL.out hinb
      have hXs : X.size = 32 := by rw [hX, size_mkS]; exact hbl
      have hXl : X.data.toList = blk (partB st pf nb) i := by rw [hX, list_mkS]
      have hck : wr.cell? ⟨g, K, none⟩ = some (.string X) := by
        rw [hK, hX, ← hb' i (Nat.le_refl _) hinb]
        exact (blk_cell hg (pf + i)).trans (hc (pf + i) (by omega))
      obtain ⟨N, hN⟩ : ∃ N, N = s'.n := ⟨_, rfl⟩
      rw [← hN] at b0
      have hAb : (blk AA i).length = 32 := blk_length _ nb i HAL.out hinb
      have wK : IntKind.i64.wrap ((pf : Int) + (i : Int)) = (K : Int) := by rw [IntWalk.i64_in _ (by omega)]; omega
      have hwr : IntKind.i64.wrap ((i : Int) + 1) = (i : Int) + 1 := IntWalk.i64_in _ (by omega)
      have x2 : (0 : Int) ≤ (K : Int) := by omega
      have x3 : (K : Int) < (N : Int) := by omega
      have x4 : (I32 : Int) < (E : Int) := by have := HHI.out; omega
      have hI32b : I32 ≤ 8192 := by omega
      have HK := Lib.hid hK
      have HI32 := Lib.hid hI32
      have HB' := Lib.hid hb'
      have HP' := Lib.hid hp'
      have HJ' := Lib.hid hj'
      have HO' := Lib.hid ho'
      have HN' := Lib.hid hn'
      have HAb := Lib.hid hAb
      have HXL := Lib.hid hXl
      have HAGI : Hid (∀ k, k < 32 → (blk AA i).getD k 0 = if I32 + k < fin then X.data.toList.getD k 0 else if I32 + k < E then FR.data.toList.getD (I32 + k - fin) 0 else 0) := fun k hk => by
        rw [hI32, hXl, HFRL.out]
        exact HAG.out i k hk
      clear hwf hne hq hg hc hK hX hbl hXl hN hAb hI32 hb' hp' hj' ho' hn' HI hwf'
      go_wp2_with fail
      go_loopw [8, 9] (fun bb kk wq => ∃ (k d : Nat), k ≤ 32 ∧ kk = .int .i64 (k : Int) ∧ bb = .string (mkS ((blk AA i).take k)) ∧ wq = wr.drewN d) (fun _ kk _ => 32 - (intOf kk).toNat)
      case atStart => exact ⟨0, 0, by omega, rfl, rfl, rfl⟩
      case round =>
        obtain ⟨k, d2, hk32, rfl, rfl, rfl⟩ := hrel
        by_cases hk : k < 32
        · obtain ⟨T, hT⟩ : ∃ T, T = I32 + k := ⟨_, rfl⟩
          obtain ⟨K1, hK1⟩ : ∃ K1, K1 = k + 1 := ⟨_, rfl⟩
          have wT : IntKind.i64.wrap ((I32 : Int) + (k : Int)) = (T : Int) := by rw [IntWalk.i64_in _ (by omega)]; omega
          have w1k : IntKind.i64.wrap ((k : Int) + 1) = (K1 : Int) := by rw [IntWalk.i64_in _ (by omega)]; omega
          have hkc : (k : Int) < 32 := by omega
          have hgk := HAGI.out k hk
          rw [← hT] at hgk
          have htk := take_get (blk AA i) k (by rw [HAb.out]; exact hk)
          obtain ⟨A, hA⟩ : ∃ A, A = mkS ((blk AA i).take k) := ⟨_, rfl⟩
          have hAs : A.size ≤ 32 := by rw [hA, size_mkS, List.length_take]; omega
          rw [← hA]
          by_cases hT1 : T < fin
          · rw [if_pos hT1] at hgk
            obtain ⟨C, hC⟩ : ∃ C, C = mkS [X.data.toList.getD k 0] := ⟨_, rfl⟩
            have eC : X.extract k K1 = C := by rw [hK1, mkS_one X k (by omega), hC]
            have hCs : C.size = 1 := by rw [hC]; rfl
            have r1 : ∀ U : World, (Op.stringOp .add A C).run Tryz.prog U = .ok (.string (A ++ C)) U := fun U => by rw [run_string_add_sum U A C (by omega)]
            have HAC : Hid (mkS ((blk AA i).take K1) = A ++ C) := by show _ = _; rw [hK1, htk, hgk, hA, hC, mkS_append]
            have g1 : (T : Int) < (fin : Int) := by omega
            have y0 : (0 : Int) ≤ (k : Int) := by omega
            have y1 : (k : Int) ≤ (K1 : Int) := by omega
            have y2 : (K1 : Int) ≤ 32 := by omega
            have HK1 : Hid (K1 ≤ 32 ∧ k < K1) := ⟨by omega, by omega⟩
            clear hT hK1 hgk htk hA hC hT1
            go_wp2_with fail
            go_quiet (fail)
            go_wp2_with fail
            go_roundw
            case rel => exact ⟨K1, _, HK1.out.1, rfl, by rw [HAC.out], by first | rfl | exact World.drewN_drewN _ _ _⟩
            case measure => have := HK1.out; simp [intOf]; omega
          · rw [if_neg hT1] at hgk
            by_cases hT2 : T < E
            · rw [if_pos hT2] at hgk
              obtain ⟨U, hU⟩ : ∃ U, U = T - fin := ⟨_, rfl⟩
              obtain ⟨U1, hU1⟩ : ∃ U1, U1 = U + 1 := ⟨_, rfl⟩
              rw [← hU] at hgk
              have hEL := HE.out
              obtain ⟨C, hC⟩ : ∃ C, C = mkS [FR.data.toList.getD U 0] := ⟨_, rfl⟩
              have eC : FR.extract U U1 = C := by rw [hU1, mkS_one FR U (by omega), hC]
              have hCs : C.size = 1 := by rw [hC]; rfl
              have r1 : ∀ V : World, (Op.stringOp .add A C).run Tryz.prog V = .ok (.string (A ++ C)) V := fun V => by rw [run_string_add_sum V A C (by omega)]
              have HAC : Hid (mkS ((blk AA i).take K1) = A ++ C) := by show _ = _; rw [hK1, htk, hgk, hA, hC, mkS_append]
              have g1 : ¬ (T : Int) < (fin : Int) := by omega
              have g2 : (T : Int) < (E : Int) := by omega
              have wU : IntKind.i64.wrap ((T : Int) - (fin : Int)) = (U : Int) := by rw [IntWalk.i64_in _ (by omega)]; omega
              have wU1 : IntKind.i64.wrap ((U : Int) + 1) = (U1 : Int) := by rw [IntWalk.i64_in _ (by omega)]; omega
              have y0 : (0 : Int) ≤ (U : Int) := by omega
              have y1 : (U : Int) ≤ (U1 : Int) := by omega
              have y2 : (U1 : Int) ≤ (L : Int) := by omega
              have HK1 : Hid (K1 ≤ 32 ∧ k < K1) := ⟨by omega, by omega⟩
              clear hT hK1 hgk htk hA hC hT1 hT2 hU hU1 hEL
              go_wp2_with fail
              go_quiet (fail)
              go_wp2_with fail
              go_roundw
              case rel => exact ⟨K1, _, HK1.out.1, rfl, by rw [HAC.out], by first | rfl | exact World.drewN_drewN _ _ _⟩
              case measure => have := HK1.out; simp [intOf]; omega
            · rw [if_neg hT2] at hgk
              obtain ⟨C, hC⟩ : ∃ C : ByteArray, C = { data := #[0] } := ⟨_, rfl⟩
              have hC2 : ({ data := #[0] } : ByteArray) = C := hC.symm
              have hCs : C.size = 1 := by rw [hC]; rfl
              have r1 : ∀ V : World, (Op.stringOp .add A C).run Tryz.prog V = .ok (.string (A ++ C)) V := fun V => by rw [run_string_add_sum V A C (by omega)]
              have HAC : Hid (mkS ((blk AA i).take K1) = A ++ C) := by
                show _ = _
                rw [hK1, htk, hgk, hA, hC, show ({ data := #[0] } : ByteArray) = mkS [0] from rfl, mkS_append]
              have g1 : ¬ (T : Int) < (fin : Int) := by omega
              have g2 : ¬ (T : Int) < (E : Int) := by omega
              have HK1 : Hid (K1 ≤ 32 ∧ k < K1) := ⟨by omega, by omega⟩
              clear hT hK1 hgk htk hA hC hT1 hT2
              go_wp2_with fail
              go_roundw
              case rel => exact ⟨K1, _, HK1.out.1, rfl, by rw [HAC.out], rfl⟩
              case measure => have := HK1.out; simp [intOf]; omega
        · obtain ⟨W, hW⟩ : ∃ W, W = mkS (blk AA i) := ⟨_, rfl⟩
          have hz : mkS ((blk AA i).take k) = W := by rw [hW, List.take_of_length_le (by rw [HAb.out]; omega)]
          rw [hz]
          have hc1 : ¬ (k : Int) < 32 := by omega
          have HWL : Hid (W.data.toList = blk AA i) := by show _ = _; rw [hW, list_mkS]
          obtain ⟨r, hr⟩ : ∃ r, r = s'.write (K : Int) W.data.toList := ⟨_, rfl⟩
          have HR : Hid (r = s'.write ((pf + i : Nat) : Int) (blk AA i)) := by show _ = _; rw [hr, HWL.out, HK.out]
          have HWR : Hid (∀ U, Only [] wr U → Calls Tryz.prog 20 #[.pointer (some ⟨q, 0, none⟩), .int .i64 (K : Int), .string W] U fun e w' => e = .returned (.int .i64 r.2) ∧ StR w' q g r.1 ∧ Only [q, g] wr w' ∧
              w'.cell? ⟨j, 0, none⟩ = some (.pointer (some ⟨q, 0, none⟩)) ∧ w'.cell? ⟨j, 1, none⟩ = some (.int .i64 (pf : Int))) := fun U hU => by
            refine (RWrite_of (HS'.out.only hU (by simp) (by simp)) (K : Int) W).mono ?_
            rintro e w' ⟨rfl, h3, h4⟩
            have h5 : Only [q, g] wr w' := (hU.mono (by simp)).tr h4
            have h6 := h5.blk HJ'.out (by simp; exact ⟨hjq, hjg⟩)
            rw [hr]
            exact ⟨rfl, h3, h5, blk_cell h6 0, blk_cell h6 1⟩
          clear hz hW hr hk32 hk c2 c3 c4 c5 f0 f1 f2 f3 f4 f5 b0 b1 b2 b3 b4 e0 e1 e2 e3 e4 hck
          go_wp2_with fail
          go_region_held3 (fun w' => w'.cell? ⟨j, 0, none⟩ = some (.pointer (some ⟨q, 0, none⟩)) ∧ w'.cell? ⟨j, 1, none⟩ = some (.int .i64 (pf : Int)))
            (go_keep)
            (first | (go_at_call 20; refine (HWR.out _ (((Only.refl [] wr).drewN _).drew)).mono ?_; rintro e w4 ⟨rfl, hs4, ho4, k0', k1'⟩; have HS4 := Lib.hid hs4; have HO4 := Lib.hid ho4; clear hs4 ho4))
          have HJ4 := Lib.hid (HO4.out.blk HJ'.out (by simp; exact ⟨hjq, hjg⟩))
          obtain ⟨c0, c1, c2, c3, c4, c5, f0, f1, f2, f3, f4, f5⟩ := jrF HJ4.out
          by_cases hr2 : r.2 = 0
          · have hne : (r.2 != 0) = false := by rw [hr2]; rfl
            have HR2 := Lib.hid hr2
            clear hr2
            go_wp2_with fail
            go_roundw
            case rel =>
              have hww := St.write_wf HS'.out.wf ((pf + i : Nat) : Int) (blk AA i)
              refine ⟨i + 1, by omega, by omega, rfl, ⟨r.1, HS4.out, by rw [HR.out, hww.2.1]; exact HN'.out, fun x y1 y2 => ?_, ?_, HJ4.out, HO'.out.tr HO4.out⟩⟩
              · rw [HR.out, write_blk HS'.out.wf (pf + i) _ (pf + x) (by omega)]
                exact HB'.out x (by omega) y2
              · rw [HP'.out, show hi - i = (hi - (i + 1)) + 1 by omega, putL_went (Or.inl rfl) (by rw [← HR.out]; exact HR2.out), ← HR.out]
            case measure => simp [intOf]; omega
          · have hne : (r.2 != 0) = true := by rw [bne_iff_ne]; exact hr2
            have HR2 := Lib.hid hr2
            clear hr2
            go_wp2_with fail
            go_ret
            have hop : appendS st pf nb fin (frameL s.data.toList) = r := by
              rw [HAP.out, HP'.out, show hi - i = (hi - (i + 1)) + 1 by omega, putL_fell (Or.inl rfl) (by rw [← HR.out]; exact HR2.out), ← HR.out]
            have hset : Only [j] w4 (w4.setCell ⟨j, 5, none⟩ (.bool true)) := (Only.refl _ _).setCell (p := ⟨j, 5, none⟩) (Or.inl (by simp)) _
            have hall : Only [q, g, j] w (w4.setCell ⟨j, 5, none⟩ (.bool true)) := ((HO'.out.tr HO4.out).mono (by simp)).tr (hset.mono (by simp))
            refine ⟨hall, by rw [hop]; exact HS4.out.only hset (by simp; omega) (by simp; omega), by rw [hop]; rfl, Or.inl ⟨by rw [hop]; exact HR2.out, ⟨_, blk_set HJ4.out 5 (.bool true), ?_, HRB.out, by intro h; cases h⟩⟩⟩
            have := HKEEP.out _ hall
            rw [← HM.out]
            exact this
    · have hii : i = hi := by omega
      have hop : appendS st pf nb fin (frameL s.data.toList) = (s', 0) := by
        rw [HAP.out, hp', hii, Nat.sub_self]
        rfl
      have x4 : ¬ (I32 : Int) < (E : Int) := by have := HHI.out; omega
      have hjq : j ≠ q := by obtain ⟨cap, m, hq⟩ := hs'.head; exact blk_ne hj' hq (by decide)
      have hjg : j ≠ g := by obtain ⟨cur, hg, _⟩ := hs'.row; exact blk_ne hj' hg (by decide)
      have HOP := Lib.hid hop
      have HS' := Lib.hid hs'
      have HJ' := Lib.hid hj'
      have HO' := Lib.hid ho'
      have HROW := Lib.hid (HKEEP.out wr (ho'.mono (by simp)))
      have c3b : (wr.alloc (.cells #[] 9)).cell? ⟨j, 3, none⟩ = some (.slice (some ⟨gv, 0, none⟩) M cv) := blk_cell (blk_alloc hj' _) 3
      obtain ⟨i0, hi0, hz0, hz1, hz2⟩ := info_parts string_info
      clear hs' hn' hb' hp' hj' ho' hop hii HI hI32
      go_wp2_with (at_builtin; refine wpList_append_own_at _ rfl _ _ 37 rfl wr.heap.size 9 i0 (.string ByteArray.empty) 1 16 Tryz.underlying37 hi0 hz0 hz1 hz2 rfl (by decide) _ 0 [] rfl (own_empty wr _ _ (Nat.le_refl _)) ⟨gv, 0, none⟩ M cv (l.map strV) rfl ?c0 ?c1 ?c2 ?c3 ?c4 ?c5 ?_)
      case c0 => exact HM.out.symm
      case c1 =>
        intro jj uu hu
        have h := (own_keep HROW.out ((Only.refl [] wr).alloc (.cells #[] 9)) (by simp)).cells (g := gv) rfl jj (strV uu) (by rw [List.getElem?_map, hu]; rfl)
        rw [addr_add0] at h
        exact h
      case c2 => intro u hu; rfl
      case c3 => unfold maxLen; omega
      case c4 => omega
      intro va8 w8 hown8 hgrow8 hnil8 hat8
      have hO8 : Only [] wr w8 := grown_new hgrow8 (fun g hg => by cases hg; exact Nat.le_refl _)
      have HV8 := Lib.hid hown8
      have HO8 := Lib.hid hO8
      clear hown8 hgrow8 hnil8 hat8 hO8
      go_wp2_with (at_builtin; refine wpList_append_own_at _ rfl _ _ 37 rfl wr.heap.size 9 i0 (.string ByteArray.empty) 1 16 Tryz.underlying37 hi0 hz0 hz1 hz2 rfl (by decide) _ _ _ rfl (HV8.out.alloc _) ⟨w8.heap.size, 0, none⟩ 1 1 [.string s] rfl rfl ?k1 ?k2 ?k3 ?k4 ?k5 ?_)
      case k1 =>
        intro m u hm
        match m, hm with
        | 0, hm => simp at hm; subst hm; simp [Addr.add, strV]
      case k2 => intro u hu; simp at hu; subst hu; rfl
      case k3 => unfold maxLen; omega
      case k4 => omega
      case k5 => have := HO8.out.size; simp; omega
      intro vb9 w9 hown9 hgrow9 hnil9 hat9
      obtain ⟨ao9, n9, cap9, rfl⟩ := own_slice hown9
      have hO9 : Only [] wr w9 := HO8.out.trans (T := va8.ownBlock.toList) (((Only.refl _ w8).alloc _).grown hgrow9 (fun k hk => Or.inl (by rw [hk]; simp))) (fun x hx => Or.inr (HV8.out.lt x (by simpa using hx)).1)
      have HO9 := Lib.hid hO9
      have HV9 := Lib.hid hown9
      have HNZ9 := Lib.hid hnil9
      have HJ9 := Lib.hid (hO9.blk HJ'.out (by simp))
      clear hown9 hgrow9 hnil9 hat9 hO9 HV8 HO8 c0 c1 c2 c3 c3b c4 c5 f0 f1 f2 f3 f4 f5
      obtain ⟨c0, c1, c2, c3, c4, c5, f0, f1, f2, f3, f4, f5⟩ := jrF HJ9.out
      go_wp2_with fail
      go_ret
      have hset : Only [j] w9 ((w9.setCell ⟨j, 3, none⟩ (.slice ao9 n9 cap9)).setCell ⟨j, 4, none⟩ (.int .i64 (E : Int))) := ((Only.refl _ _).setCell (p := ⟨j, 3, none⟩) (Or.inl (by simp)) _).setCell (p := ⟨j, 4, none⟩) (Or.inl (by simp)) _
      have hwr9 : Only [j] wr ((w9.setCell ⟨j, 3, none⟩ (.slice ao9 n9 cap9)).setCell ⟨j, 4, none⟩ (.int .i64 (E : Int))) := (HO9.out.mono (by simp)).tr hset
      have hall : Only [q, g, j] w ((w9.setCell ⟨j, 3, none⟩ (.slice ao9 n9 cap9)).setCell ⟨j, 4, none⟩ (.int .i64 (E : Int))) := (HO'.out.mono (by simp)).tr (hwr9.mono (by simp))
      refine ⟨hall, by rw [HOP.out]; exact HS'.out.only hwr9 (by simp; omega) (by simp; omega), by rw [HOP.out]; rfl, Or.inr ⟨by rw [HOP.out], (Value.slice ao9 n9 cap9).ownBlock, fun x hx => ?_, ⟨_, ?_, ?_, rfl, fun h => HNZ9.out h⟩⟩⟩
      · have := (HV9.out.lt x hx).1
        have := HO'.out.size
        omega
      · rw [show fin + (s.data.toList.length + 8) = E by rw [HE.out, HLL.out]; rfl]
        exact blk_set (blk_set HJ9.out 3 (.slice ao9 n9 cap9)) 4 (.int .i64 (E : Int))
      · have h := own_mono HV9.out (Nat.zero_le _)
        have h2 := own_keep h hset (fun x hx hm => by
          rw [List.mem_singleton.1 hm] at hx
          exact ty_ne (own_type HV9.out hx) ⟨_, _, HJ9.out⟩ (by decide) rfl)
        rw [List.length_append, List.map_append, List.map_singleton, strV, mkS_list, ← HM.out]
        simpa using h2
theorem RAppend_of {w : World} {j q g pf nb : Nat} {rb : Option Nat} {l : List Bs} {fin : Nat} {st : St} {o : Bool} (hs : StR w q g st) (h : JnR w j rb q pf nb l fin o) (hh : st.Has pf nb) (hrg : ∀ x, rb = some x → x ≠ g) (s : ByteArray) (hf : fin ≤ 32 * nb) (hlen : l.length ≤ 100000) :
    Calls Tryz.prog 40 #[.pointer (some ⟨j, 0, none⟩), .string s] w fun e w' =>
      ((s.size = 0 ∨ 400 < s.size) ∧ e = .returned (.int .i64 3) ∧ Only [] w w') ∨
      (1 ≤ s.size ∧ s.size ≤ 400 ∧ (32 * nb < fin + (s.size + 8) ∨ o = true) ∧ e = .returned (.int .i64 (if 32 * nb < fin + (s.size + 8) then 14 else 16)) ∧ Only [] w w') ∨
      (1 ≤ s.size ∧ s.size ≤ 400 ∧ fin + (s.size + 8) ≤ 32 * nb ∧ o = false ∧ RAppPost st j rb q g pf nb l fin s.data.toList w e w') := by
  have hn : nb ≤ 256 := by have := hs.wf.hi; have := hh.2; omega
  by_cases hb : s.size = 0 ∨ 400 < s.size
  · refine (RAppend_bad s hb).mono ?_
    rintro e _ ⟨rfl, rfl⟩
    exact Or.inl ⟨hb, rfl, Only.refl _ _⟩
  · by_cases hr : 32 * nb < fin + (s.size + 8) ∨ o = true
    · refine (RAppend_not h hn hf s (by omega) (by omega) hr).mono ?_
      rintro e w' ⟨rfl, ho⟩
      exact Or.inr (Or.inl ⟨by omega, by omega, hr, rfl, ho⟩)
    · have ho : o = false := by cases o; rfl; exact absurd (Or.inr rfl) hr
      subst ho
      refine (RAppend_go hs h hh hrg s (by omega) (by omega) (by omega) hlen).mono ?_
      intro e w' hp
      exact Or.inr (Or.inr ⟨by omega, by omega, by omega, rfl, hp⟩)
end Go.Proofs.YtngcdkbnljoodaaGreatDoor

