/- The reference's Lex tells what lexR tells. No conditions beyond those typed. -/
import Derived.Test.YtdphomiljkclbaaDoorLexQ
namespace Go.Proofs.YtdphomiljkclbaaDoor
set_option linter.unusedVariables false
set_option linter.unusedSimpArgs false
open Go.RowKit Go.Proofs.YtdphomiljkclbaaDoorW.PrintWords Go.Proofs.YtdphomiljkclbaaDoorW.PrintLast Go.Proofs.YtdphomiljkclbaaDoorW.PrintMore Go.Proofs.YtdphomiljkclbaaDoor.P

theorem kindR_v (c v : Int) (h : (97 ≤ c ∧ c ≤ 122 ∧ v = 1) ∨ (¬ (97 ≤ c ∧ c ≤ 122) ∧ 48 ≤ c ∧ c ≤ 57 ∧ v = 2) ∨ (c = 95 ∧ v = 3) ∨ (c = 59 ∧ v = 4) ∨ ((c = 32 ∨ c = 10) ∧ v = 5) ∨ (¬ (97 ≤ c ∧ c ≤ 122) ∧ ¬ (48 ≤ c ∧ c ≤ 57) ∧ c ≠ 95 ∧ c ≠ 59 ∧ c ≠ 32 ∧ c ≠ 10 ∧ v = 0)) : kindR c = v := by
  simp only [kindR, isLet, isDig, gap, Bool.and_eq_true, Bool.or_eq_true, decide_eq_true_eq, beq_iff_eq]
  repeat' split
  all_goals omega
set_option maxHeartbeats 1000000 in
theorem kind_any (c : Int) (w : World) :
    Calls Tryd.prog 32 #[.int .u8 c] w fun e w' => e = .returned (.int .i64 (kindR c)) ∧ w = w' := by
  go_enter Tryd.func32, Tryd.ntmps32
  go_wp2
  all_goals go_ret
  all_goals
    first
    | exact ⟨rfl, rfl⟩
    | (refine ⟨?_, rfl⟩
       simp only [beq_eq_false_iff_ne, beq_iff_eq, ne_eq] at *
       first
       | (refine Eq.trans ?_ (congrArg (fun x => Ending.returned (.int .i64 x)) (kindR_v c 0 ?_).symm) <;> first | rfl | omega)
       | (refine Eq.trans ?_ (congrArg (fun x => Ending.returned (.int .i64 x)) (kindR_v c 1 ?_).symm) <;> first | rfl | omega)
       | (refine Eq.trans ?_ (congrArg (fun x => Ending.returned (.int .i64 x)) (kindR_v c 2 ?_).symm) <;> first | rfl | omega)
       | (refine Eq.trans ?_ (congrArg (fun x => Ending.returned (.int .i64 x)) (kindR_v c 3 ?_).symm) <;> first | rfl | omega)
       | (refine Eq.trans ?_ (congrArg (fun x => Ending.returned (.int .i64 x)) (kindR_v c 4 ?_).symm) <;> first | rfl | omega)
       | (refine Eq.trans ?_ (congrArg (fun x => Ending.returned (.int .i64 x)) (kindR_v c 5 ?_).symm) <;> first | rfl | omega))
theorem kind_is (c v : Int) (h : kindR c = v) (w : World) :
    Calls Tryd.prog 32 #[.int .u8 c] w fun e w' => e = .returned (.int .i64 v) ∧ w = w' := h ▸ kind_any c w
def cvt (t : S47) : S55 := ⟨t.f0, t.f1, t.f2, t.f3⟩
theorem rtok_info : (Tryd.prog.info? 55).map (fun i => (i.zero, i.size, i.bytes)) = some (some (.agg #[(.int .i64 0), (.string ⟨#[]⟩), (.int .i64 0), (.int .i64 0)]), 4, 40) := by kernel_rfl
theorem set_drew_new (w : World) (n : Nat) (t : TypeId) (a b c d : Value) {v : Value} : ((w.alloc (.cells #[a, b, c, d] t)).drewN n).setCell ⟨w.heap.size, 2, none⟩ v = (w.alloc (.cells #[a, b, v, d] t)).drewN n := by
  show ((w.alloc (.cells #[a, b, c, d] t)).setCell ⟨w.heap.size, 2, none⟩ v).drewN n = _
  rw [World.setCell_alloc_new]
  simp
set_option maxHeartbeats 4000000 in
set_option maxRecDepth 100000 in
theorem RLex_any (s : ByteArray) (hs : s.size ≤ 140737488351232) (w : World) :
    Calls Tryd.prog 22 #[.string s] w fun e w' => ∃ v, e = .returned (.tuple #[v, .int .i64 (lexR s).2.1, .int .i64 (lexR s).2.2]) ∧ Kd.R k55 55 w' w.heap.size (fun _ => True) v ((lexR s).1.map cvt) ∧ Below w.heap.size w w' := by
  have hu := Tryd.underlying55
  go_enter Tryd.func22, Tryd.ntmps22
  go_wp2_with (first | ((with_reducible refine gate_dst (N := 11) rfl ?_); refine Kd.R_lit k55 _ 55 ?hg (N := 11) ?hd (xs := ([] : List S55)) (inner := []) (ok := fun _ => True) (okp := fun _ => True) ?hr ?hp (fun _ hk => hk) trivial (Below.refl _ _) (Nat.le_refl _) (by simp) ?_; (case hd => rfl); (case hg => rfl); (case hr => first | (go_simp; done) | (go_simp; rfl)); (case hp => exact (Reps.none _ _)); intro v0 w0 ho0 hb0 hg_ hnew_; clear hg_ hnew_; have HO0 := Aside0.mk ho0; have HB0 := Aside0.mk hb0; clear ho0 hb0))
  go_loopw [5, 6] (fun v i w' => ∃ (l : List S47) (k : Nat), i = .int .i64 k ∧ k ≤ s.size ∧ l.length ≤ 5000 ∧ Aside0 (lexAt s 0 0 = glue l (lexAt s l.length k)) ∧ Aside0 (Kd.R k55 55 w' w.heap.size (fun _ => True) v (l.map cvt)) ∧ Aside0 (Below w.heap.size w w')) (fun _ i _ => s.size - (intOf i).toNat)
  case atStart => exact ⟨[], 0, rfl, by omega, by simp, ⟨(glue_nil _).symm⟩, ⟨HO0.out⟩, ⟨HB0.out⟩⟩
  case round =>
    clear HO0 HB0
    obtain ⟨l, i, rfl, hi, hl, HL, HO, HB⟩ := hrel
    by_cases hlt : i < s.size
    · have hb : ((s[i].toNat : Nat) : Int) = bt s i := by simp [bt, hlt]
      have HS := Lib.hid (lexAt_step (n := l.length) hlt)
      rcases kindR_all (bt s i) with ⟨hk, hg, hin, h59⟩ | ⟨hk, hlet⟩ | ⟨hk, hdig⟩ | ⟨hk, hg, hlet, hdig, h59⟩ | ⟨hk, h59, hg⟩ | ⟨hk, hg⟩
      · have hok := okS_gap (by cases h : isLet (bt s i); rfl; rw [let_inn h] at hin; cases hin) (by cases h : isDig (bt s i); rfl; rw [dig_inn h] at hin; cases hin) h59
        have hkind := Lib.hid (kind_is _ _ hk)
        have hg' : (bt s i == 32 || bt s i == 10) = false := hg
        rw [hg', hok] at HS
        clear hg hg' hk hok
        go_wp2_with (go_at_call 32; refine (hkind.out _).mono ?_; rintro e w' ⟨rfl, rfl⟩)
        go_ret3
        have hR : lexR s = ([], (i : Int), 2) := by unfold lexR; rw [HL.out, HS.out]; rfl
        rw [hR]
        exact ⟨_, rfl, Kd.R_nil _ _ _ _ _, HB.out⟩
      · -- a word
        have hkind := Lib.hid (kind_is _ _ hk)
        obtain ⟨hok, hend, htok⟩ := okS_let hlet
        have hg' : (bt s i == 32 || bt s i == 10) = false := by
          cases h : gap (bt s i)
          · exact h
          · rw [(gap_not h).2.2] at hlet; cases hlet
        rw [hg', hok, hend, htok] at HS
        have HRE := Lib.hid (runE_step (p := isInn) hlt (let_inn hlet))
        clear hg' hok hend htok hk hlet
        go_upto_block 2 with (go_at_call 32; refine (hkind.out _).mono ?_; rintro e w' ⟨rfl, rfl⟩)
        go_cut [8] (fun v8 wc => ∃ e : Nat, v8 = .int .i64 e ∧ i + 1 ≤ e ∧ e ≤ s.size ∧ Aside0 (runE isInn s i = e) ∧ wc = wr)
        case first =>
          go_wp2
          go_loop [8] (fun t => ∃ e : Nat, i + 1 ≤ e ∧ e ≤ s.size ∧ t = .int .i64 e ∧ Aside0 (runE isInn s i = runE isInn s e)) (fun t => s.size - (intOf t).toNat)
          case atStart => exact ⟨i + 1, Nat.le_refl _, by omega, by go_num, ⟨HRE.out⟩⟩
          case round =>
            obtain ⟨e, he1, he2, rfl, HE⟩ := hrel
            by_cases hlte : e < s.size
            · have hbe : ((s[e].toNat : Nat) : Int) = bt s e := by simp [bt, hlte]
              cases hin : isInn (bt s e)
              · have HE2 := Lib.hid (HE.out.trans (runE_stop (by rintro ⟨a, b⟩; rw [hin] at b; cases b)))
                rcases kindR_not hin with hk2 | hk2 | hk2
                all_goals
                  have hkind2 := Lib.hid (kind_is _ _ hk2)
                  clear hk2
                  go_wp2_with (go_at_call 32; refine (hkind2.out _).mono ?_; rintro e w' ⟨rfl, rfl⟩)
                  go_meet
                  case rel => exact ⟨e, rfl, he1, he2, ⟨HE2.out⟩, rfl⟩
              · have HE2 := Lib.hid (HE.out.trans (runE_step hlte hin))
                rcases kindR_inn hin with hk2 | hk2 | hk2
                all_goals
                  have hkind2 := Lib.hid (kind_is _ _ hk2)
                  clear hk2
                  go_wp2_with (go_at_call 32; refine (hkind2.out _).mono ?_; rintro e w' ⟨rfl, rfl⟩)
                  go_round
                  case rel => exact ⟨e + 1, by omega, by omega, by go_num, ⟨HE2.out⟩⟩
                  case measure => simp [intOf]; omega
            · have HE2 := Lib.hid (HE.out.trans (runE_stop (by rintro ⟨a, b⟩; exact hlte a)))
              go_wp2
              go_meet
              case rel => exact ⟨e, rfl, he1, he2, ⟨HE2.out⟩, rfl⟩
        case rest =>
          obtain ⟨e, rfl, he1, he2, HE, rfl⟩ := hcut
          rw [HE.out] at HS
          by_cases h20 : e - i ≤ 20
          · have h20' : (e : Int) - i ≤ 20 := by omega
            obtain ⟨A, c, rfl, hlc, hC⟩ := Kd.R_reads HO.out
            clear hC
            rw [List.length_map] at hlc
            have hlm : (l.map cvt).length = l.length := List.length_map ..
            rw [hlm] at HO
            rw [hlm]
            clear hlm
            by_cases h7 : l.length = 5000
            · have H7 := Lib.hid h7
              have h7' : (5000 : Int) ≤ l.length := by omega
              clear h7
              go_wp2
              go_loop [10] (fun t => t = .int .i64 i) (fun _ => 0)
              case atStart => rfl
              case round =>
                subst hrel
                go_wp2
                go_ret3
                have hR : lexR s = ([], (i : Int), 4) := by unfold lexR; rw [HL.out, HS.out]; simp only [Bool.false_eq_true, if_false]; rw [if_pos (by simp [h20]), if_pos H7.out]; rfl
                rw [hR]
                exact ⟨_, rfl, Kd.R_nil _ _ _ _ _, below_alloc HB.out _⟩
            · have H7 := Lib.hid h7
              have h7' : (l.length : Int) < 5000 := by omega
              clear h7
              go_wp2
              go_loop [10] (fun t => t = .int .i64 i) (fun _ => 0)
              case atStart => rfl
              case round =>
                subst hrel
                go_wp2_with (at_builtin; refine Kd.R_append k55 (w0 := w) w.heap.size rfl (.tmp 126) (.tmp 128) 50 55 _ 40 rfl Tryd.underlying50 rtok_info rfl (by decide) (by omega) (.slice A l.length c) (l.map cvt) ⟨1, s.extract i e, 0, i⟩ [.int .i64 1, .string (s.extract i e), .int .i64 (0), .int .i64 i] (fun _ => True) (fun _ => False) rfl (by simp [Act.eval]) (k55_mkM _ _ _ ⟨1, s.extract i e, 0, i⟩) (fun _ hk => hk.elim) (fun _ _ => trivial) (Kd.R_alloc HO.out _) (below_alloc HB.out _) ((below_alloc HB.out _).size) (by rw [List.length_map]; omega) ?_; intro v1 w2 ho hb2 hg hat; have HO2 := Aside0.mk ho; have HB2 := Aside0.mk hb2; clear ho hb2 hg hat)
                go_roundw
                case rel => exact ⟨l ++ [tokAt 1 s i e (0)], e, rfl, he2, by simp; omega, ⟨by rw [HL.out, HS.out]; simp only [Bool.false_eq_true, if_false]; rw [if_pos (by simp [h20]), if_neg H7.out, glue_cons]; simp⟩, ⟨by rw [List.map_append]; exact HO2.out⟩, HB2⟩
                case measure => simp [intOf]; omega
          · have h20' : (20 : Int) < e - i := by omega
            go_wp2
            go_ret3
            have hR : lexR s = ([], (i : Int), 2) := by unfold lexR; rw [HL.out, HS.out]; simp only [Bool.false_eq_true, if_false]; rw [if_neg (by simp; omega)]; rfl
            rw [hR]
            exact ⟨_, rfl, Kd.R_nil _ _ _ _ _, below_alloc HB.out _⟩
      · -- a number
        have hkind := Lib.hid (kind_is _ _ hk)
        have hg' : (bt s i == 32 || bt s i == 10) = false := by
          cases h : gap (bt s i)
          · exact h
          · rw [(gap_not h).2.1] at hdig; cases hdig
        rw [hg'] at HS
        have HRE := Lib.hid (runE_step (p := isInn) hlt (dig_inn hdig))
        have HD := Lib.hid hdig
        clear hg' hk hdig
        go_upto_block 2 with (go_at_call 32; refine (hkind.out _).mono ?_; rintro e w' ⟨rfl, rfl⟩)
        go_cut [8] (fun v8 wc => ∃ e : Nat, v8 = .int .i64 e ∧ i + 1 ≤ e ∧ e ≤ s.size ∧ Aside0 (runE isInn s i = e) ∧ wc = wr)
        case first =>
          go_wp2
          go_loop [8] (fun t => ∃ e : Nat, i + 1 ≤ e ∧ e ≤ s.size ∧ t = .int .i64 e ∧ Aside0 (runE isInn s i = runE isInn s e)) (fun t => s.size - (intOf t).toNat)
          case atStart => exact ⟨i + 1, Nat.le_refl _, by omega, by go_num, ⟨HRE.out⟩⟩
          case round =>
            obtain ⟨e, he1, he2, rfl, HE⟩ := hrel
            by_cases hlte : e < s.size
            · have hbe : ((s[e].toNat : Nat) : Int) = bt s e := by simp [bt, hlte]
              cases hin : isInn (bt s e)
              · have HE2 := Lib.hid (HE.out.trans (runE_stop (by rintro ⟨a, b⟩; rw [hin] at b; cases b)))
                rcases kindR_not hin with hk2 | hk2 | hk2
                all_goals
                  have hkind2 := Lib.hid (kind_is _ _ hk2)
                  clear hk2
                  go_wp2_with (go_at_call 32; refine (hkind2.out _).mono ?_; rintro e w' ⟨rfl, rfl⟩)
                  go_meet
                  case rel => exact ⟨e, rfl, he1, he2, ⟨HE2.out⟩, rfl⟩
              · have HE2 := Lib.hid (HE.out.trans (runE_step hlte hin))
                rcases kindR_inn hin with hk2 | hk2 | hk2
                all_goals
                  have hkind2 := Lib.hid (kind_is _ _ hk2)
                  clear hk2
                  go_wp2_with (go_at_call 32; refine (hkind2.out _).mono ?_; rintro e w' ⟨rfl, rfl⟩)
                  go_round
                  case rel => exact ⟨e + 1, by omega, by omega, by go_num, ⟨HE2.out⟩⟩
                  case measure => simp [intOf]; omega
            · have HE2 := Lib.hid (HE.out.trans (runE_stop (by rintro ⟨a, b⟩; exact hlte a)))
              go_wp2
              go_meet
              case rel => exact ⟨e, rfl, he1, he2, ⟨HE2.out⟩, rfl⟩
        case rest =>
          obtain ⟨e, rfl, he1, he2, HE, rfl⟩ := hcut
          go_upto_block 4 with (fail)
          go_cut [10] (fun v10 w2 => ∃ v : Int, 0 ≤ v ∧ v ≤ 10485769 ∧ Aside0 (v = numTo (s.extract i e) (e - i)) ∧ Aside0 (∀ m : Nat, i ≤ m → m < e → isDig (bt s m) = true) ∧ Aside0 (bt s i = 48 → e ≤ i + 1) ∧ Aside0 (w2.heap[wc.heap.size]? = some (.cells #[.int .i64 2, .string (s.extract i e), .int .i64 v, .int .i64 i] 55 (0, 0))) ∧ Aside0 (Kd.R k55 55 w2 w.heap.size (fun _ => True) u5 (l.map cvt)) ∧ Aside0 (Below w.heap.size w w2))
          case first =>
            go_wp2
            go_loopw [10] (fun t w2 => ∃ (j : Nat) (v : Int) (n : Nat), t = .int .i64 j ∧ i ≤ j ∧ j ≤ e ∧ 0 ≤ v ∧ v ≤ 10485769 ∧ Aside0 (v = numTo (s.extract i e) (j - i)) ∧ Aside0 (∀ m : Nat, i ≤ m → m < j → isDig (bt s m) = true) ∧ Aside0 (bt s i = 48 → j ≤ i + 1) ∧ w2 = (wc.alloc (.cells #[.int .i64 2, .string (s.extract i e), .int .i64 v, .int .i64 i] 55)).drewN n) (fun t _ => e - (intOf t).toNat)
            case atStart => exact ⟨i, 0, 0, rfl, Nat.le_refl _, by omega, by omega, by omega, ⟨by simp [numTo]⟩, ⟨fun m a b => by omega⟩, ⟨fun _ => by omega⟩, rfl⟩
            case round =>
              obtain ⟨j, v, n, rfl, hj1, hj2, hv0, hv1, HV, HA, HZ, rfl⟩ := hrel
              by_cases hje : j < e
              · have hbj : ((s[j].toNat : Nat) : Int) = bt s j := by simp [bt, show j < s.size by omega]
                have hje' : j < runE isInn s i := by rw [HE.out]; exact hje
                have HJE := Lib.hid hje'
                clear hje'
                cases hdj : isDig (bt s j)
                · have hk2 := kind_any (bt s j)
                  have hne := kindR_two hdj
                  generalize kindR (bt s j) = kk at *
                  have hkind2 := Lib.hid hk2
                  have hkk : (kk != 2) = true := by simpa using hne
                  clear hk2 hne
                  have hok := bad_kind hlt HD.out hj1 HJE.out HA.out hdj
                  have HOK := Lib.hid hok
                  clear hok
                  go_wp2_with (go_at_call 32; refine (hkind2.out _).mono ?_; rintro e w' ⟨rfl, rfl⟩)
                  go_ret3
                  have hR : lexR s = ([], (i : Int), 2) := by unfold lexR; rw [HL.out, HS.out, HOK.out]; rfl
                  rw [hR]
                  exact ⟨_, rfl, Kd.R_nil _ _ _ _ _, pw_below_drewN (below_alloc HB.out _) _⟩
                · have hkind2 := Lib.hid (kind_is _ _ (kindR_dig hdj))
                  have hdr : 48 ≤ bt s j ∧ bt s j ≤ 57 := by simpa [isDig] using hdj
                  by_cases hz : bt s i = 48 ∧ i < j
                  · have hz1 : (bt s i == 48) = true := by simpa using hz.1
                    have hz2 : (i : Int) < j := by omega
                    have hok := bad_zero hlt HD.out hj1 HJE.out HA.out hz.1 hz.2
                    have HOK := Lib.hid hok
                    clear hok
                    clear hz
                    go_wp2_with (go_at_call 32; refine (hkind2.out _).mono ?_; rintro e w' ⟨rfl, rfl⟩)
                    go_ret3
                    have hR : lexR s = ([], (i : Int), 2) := by unfold lexR; rw [HL.out, HS.out, HOK.out]; rfl
                    rw [hR]
                    exact ⟨_, rfl, Kd.R_nil _ _ _ _ _, pw_below_drewN (below_alloc HB.out _) _⟩
                  · have hzz : ((bt s i == 48) = true ∧ ¬ (i : Int) < j) ∨ (bt s i == 48) = false := by
                      by_cases h48 : bt s i = 48
                      · left; exact ⟨by simpa using h48, by omega⟩
                      · right; simpa using h48
                    have HZZ : Hid (bt s i = 48 → j + 1 ≤ i + 1) := fun h => by
                      have : ¬ i < j := fun h2 => hz ⟨h, h2⟩
                      omega
                    clear hz
                    by_cases hgt : 1048576 < v
                    · rcases hzz with ⟨hz1, hz2⟩ | hz1
                      all_goals
                        have hok := bad_great hlt HD.out hj1 HJE.out HA.out (by rw [HE.out, ← HV.out]; exact hgt)
                        have HOK := Lib.hid hok
                        clear hok
                        go_wp2_with (go_at_call 32; refine (hkind2.out _).mono ?_; rintro e w' ⟨rfl, rfl⟩)
                        go_ret3
                        have hR : lexR s = ([], (i : Int), 2) := by unfold lexR; rw [HL.out, HS.out, HOK.out]; rfl
                        rw [hR]
                        exact ⟨_, rfl, Kd.R_nil _ _ _ _ _, pw_below_drewN (below_alloc HB.out _) _⟩
                    · have HVN : Hid (10 * v + (bt s j - 48) = numTo (s.extract i e) (j + 1 - i)) := by
                        show _ = _
                        rw [show j + 1 - i = (j - i) + 1 by omega]
                        simp only [numTo]
                        rw [← HV.out, bt_extract s i e (j - i) he2 (by omega), show i + (j - i) = j by omega]
                      have HAN : Hid (∀ m : Nat, i ≤ m → m < j + 1 → isDig (bt s m) = true) := fun m a b => by
                        rcases Nat.lt_or_ge m j with h | h
                        · exact HA.out m a h
                        · rw [show m = j by omega]; exact hdj
                      have hm : (bt s j - 48) % 256 = bt s j - 48 := by omega
                      have HM := Lib.hid hm
                      clear hm
                      rcases hzz with ⟨hz1, hz2⟩ | hz1
                      all_goals
                        go_wp2_with (go_at_call 32; refine (hkind2.out _).mono ?_; rintro e w' ⟨rfl, rfl⟩)
                        go_region
                        all_goals
                          go_wp2
                          go_roundw
                          case rel => exact ⟨j + 1, 10 * v + (bt s j - 48), n + 1, by go_num, by omega, by omega, by omega, by omega, ⟨HVN.out⟩, ⟨HAN.out⟩, ⟨HZZ.out⟩, set_drew_new _ _ _ _ _ _ _⟩
                          case measure => simp [intOf]; omega
              · obtain rfl : j = e := by omega
                go_wp2
                go_meet
                case rel => exact ⟨v, hv0, hv1, HV, HA, HZ, ⟨blk_drewN (blk_new _ _) _⟩, ⟨Kd.R_drewN (Kd.R_alloc HO.out _) _⟩, ⟨pw_below_drewN (below_alloc HB.out _) _⟩⟩
          case rest =>
            obtain ⟨v, hv0, hv1, HV, HA, HZ, HBK, HO2, HB2⟩ := hcut
            obtain ⟨hrd, hnum, hok⟩ := good_num hlt HD.out (by rw [HE.out]; exact HA.out) (by rw [HE.out]; exact HZ.out)
            obtain ⟨hok1, hend, htok⟩ := okS_dig HD.out
            rw [HE.out] at hrd hnum hok
            rw [hrd] at hend htok
            rw [← HV.out] at hnum hok
            have hx0 := blk_cell HBK.out 0
            have hx1 := blk_cell HBK.out 1
            have hx2 := blk_cell HBK.out 2
            have hx3 := blk_cell HBK.out 3
            simp only [List.getElem?_toArray, List.getElem?_cons_zero, List.getElem?_cons_succ] at hx0 hx1 hx2 hx3
            rw [hok, hend, htok] at HS
            clear hok hok1 hend htok hrd
            have HNUM := Lib.hid hnum
            clear hnum
            by_cases hgt : 1048576 < v
            · go_wp2
              go_ret3
              have hR : lexR s = ([], (i : Int), 2) := by unfold lexR; rw [HL.out, HS.out]; simp only [Bool.false_eq_true, if_false]; rw [if_neg (by simp; omega)]; rfl
              rw [hR]
              exact ⟨_, rfl, Kd.R_nil _ _ _ _ _, HB2.out⟩
            · have hle : v ≤ 1048576 := by omega
              have HTK : Hid (numV (s.extract i e) = v) := by
                show _ = _
                unfold numV
                rw [← HNUM.out, if_pos hle]
              rw [HTK.out] at HS
              obtain ⟨A, c, rfl, hlc, hC⟩ := Kd.R_reads HO2.out
              clear hC
              rw [List.length_map] at hlc
              have hlm : (l.map cvt).length = l.length := List.length_map ..
              rw [hlm] at HO2
              rw [hlm]
              clear hlm
              by_cases h7 : l.length = 5000
              · have H7 := Lib.hid h7
                have h7' : (5000 : Int) ≤ l.length := by omega
                clear h7
                go_wp2
                go_ret3
                have hR : lexR s = ([], (i : Int), 4) := by unfold lexR; rw [HL.out, HS.out]; simp only [Bool.false_eq_true, if_false]; rw [if_pos (by simp [hle]), if_pos H7.out]; rfl
                rw [hR]
                exact ⟨_, rfl, Kd.R_nil _ _ _ _ _, HB2.out⟩
              · have H7 := Lib.hid h7
                have h7' : (l.length : Int) < 5000 := by omega
                clear h7
                go_wp2_with (at_builtin; refine Kd.R_append k55 (w0 := w) w.heap.size rfl (.tmp 126) (.tmp 128) 50 55 _ 40 rfl Tryd.underlying50 rtok_info rfl (by decide) (by omega) (.slice A l.length c) (l.map cvt) ⟨2, s.extract i e, v, i⟩ [.int .i64 2, .string (s.extract i e), .int .i64 v, .int .i64 i] (fun _ => True) (fun _ => False) rfl (by simp [Act.eval]) (k55_mkM _ _ _ ⟨2, s.extract i e, v, i⟩) (fun _ hk => hk.elim) (fun _ _ => trivial) (HO2.out) (HB2.out) ((HB2.out).size) (by rw [List.length_map]; omega) ?_; intro v1 w2 ho hb2 hg hat; have HO3 := Aside0.mk ho; have HB3 := Aside0.mk hb2; clear ho hb2 hg hat)
                go_roundw
                case rel => exact ⟨l ++ [tokAt 2 s i e v], e, rfl, he2, by simp; omega, ⟨by rw [HL.out, HS.out]; simp only [Bool.false_eq_true, if_false]; rw [if_pos (by simp [hle]), if_neg H7.out, glue_cons]; simp⟩, ⟨by rw [List.map_append]; exact HO3.out⟩, HB3⟩
                case measure => simp [intOf]; omega
      · have hok := okS_gap hlet hdig h59
        have hkind := Lib.hid (kind_is _ _ hk)
        have hg' : (bt s i == 32 || bt s i == 10) = false := hg
        rw [hg', hok] at HS
        clear hg hg' hk hok
        go_wp2_with (go_at_call 32; refine (hkind.out _).mono ?_; rintro e w' ⟨rfl, rfl⟩)
        go_ret3
        have hR : lexR s = ([], (i : Int), 2) := by unfold lexR; rw [HL.out, HS.out]; rfl
        rw [hR]
        exact ⟨_, rfl, Kd.R_nil _ _ _ _ _, HB.out⟩
      · -- a sign
        have hkind := Lib.hid (kind_is _ _ hk)
        obtain ⟨hok, hend, htok⟩ := okS_sign h59
        have hg' : (bt s i == 32 || bt s i == 10) = false := hg
        rw [hg', hok, hend, htok] at HS
        clear hg hg' hok hend htok hk h59
        go_wp2_with (go_at_call 32; refine (hkind.out _).mono ?_; rintro e w' ⟨rfl, rfl⟩)
        go_loop [8] (fun t => ∃ e : Nat, t = .int .i64 e ∧ i + 1 ≤ e ∧ e ≤ s.size ∧ Aside0 (e = i + 1)) (fun _ => 0)
        case atStart => exact ⟨i + 1, by go_num, by omega, by omega, ⟨rfl⟩⟩
        case round =>
          obtain ⟨e, rfl, he1, he2, HE⟩ := hrel
          rw [← HE.out] at HS
          obtain ⟨A, c, rfl, hlc, hC⟩ := Kd.R_reads HO.out
          clear hC
          rw [List.length_map] at hlc
          have hlm : (l.map cvt).length = l.length := List.length_map ..
          rw [hlm] at HO
          rw [hlm]
          clear hlm
          by_cases h7 : l.length = 5000
          · have H7 := Lib.hid h7
            have h7' : (5000 : Int) ≤ l.length := by omega
            clear h7
            go_wp2
            go_loop [10] (fun t => t = .int .i64 i) (fun _ => 0)
            case atStart => rfl
            case round =>
              subst hrel
              go_wp2
              go_ret3
              have hR : lexR s = ([], (i : Int), 4) := by unfold lexR; rw [HL.out, HS.out]; simp only [Bool.false_eq_true, if_false]; rw [if_pos trivial, if_pos H7.out]; rfl
              rw [hR]
              exact ⟨_, rfl, Kd.R_nil _ _ _ _ _, below_alloc HB.out _⟩
          · have H7 := Lib.hid h7
            have h7' : (l.length : Int) < 5000 := by omega
            clear h7
            go_wp2
            go_loop [10] (fun t => t = .int .i64 i) (fun _ => 0)
            case atStart => rfl
            case round =>
              subst hrel
              go_wp2_with (at_builtin; refine Kd.R_append k55 (w0 := w) w.heap.size rfl (.tmp 126) (.tmp 128) 50 55 _ 40 rfl Tryd.underlying50 rtok_info rfl (by decide) (by omega) (.slice A l.length c) (l.map cvt) ⟨3, s.extract i e, 0, i⟩ [.int .i64 3, .string (s.extract i e), .int .i64 (0), .int .i64 i] (fun _ => True) (fun _ => False) rfl (by simp [Act.eval]) (k55_mkM _ _ _ ⟨3, s.extract i e, 0, i⟩) (fun _ hk => hk.elim) (fun _ _ => trivial) (Kd.R_alloc HO.out _) (below_alloc HB.out _) ((below_alloc HB.out _).size) (by rw [List.length_map]; omega) ?_; intro v1 w2 ho hb2 hg hat; have HO2 := Aside0.mk ho; have HB2 := Aside0.mk hb2; clear ho hb2 hg hat)
              go_roundw
              case rel => exact ⟨l ++ [tokAt 3 s i e (0)], e, rfl, he2, by simp; omega, ⟨by rw [HL.out, HS.out]; simp only [Bool.false_eq_true, if_false]; rw [if_pos trivial, if_neg H7.out, glue_cons]; simp⟩, ⟨by rw [List.map_append]; exact HO2.out⟩, HB2⟩
              case measure => simp [intOf]; omega
      · have hkind := Lib.hid (kind_is _ _ hk)
        have hg' : (bt s i == 32 || bt s i == 10) = true := hg
        rw [hg'] at HS
        have HG := Lib.hid hg'
        clear hg hg' hk
        go_wp2_with (go_at_call 32; refine (hkind.out _).mono ?_; rintro e w' ⟨rfl, rfl⟩)
        go_roundw
        case rel => exact ⟨l, i + 1, by go_num, by omega, hl, ⟨by rw [HL.out, HS.out]; rfl⟩, HO, HB⟩
        case measure => simp [intOf]; omega
    · have HE := Lib.hid (lexAt_end (n := l.length) hlt)
      go_wp2
      go_ret3
      have hR : lexR s = (l, 0, 0) := by unfold lexR; rw [HL.out, HE.out]; simp [glue]
      rw [hR]
      exact ⟨_, rfl, HO.out, HB.out⟩
end Go.Proofs.YtdphomiljkclbaaDoor
namespace Go.Proofs.YtdphomiljkclbaaDoor.P
open Go.RowKit Go.Proofs.YtdphomiljkclbaaDoorW.PrintWords Go.Proofs.YtdphomiljkclbaaDoorW.PrintLast Go.Proofs.YtdphomiljkclbaaDoorW.PrintMore Go.Proofs.YtdphomiljkclbaaDoor
def replevinref01_Lex.f (a0 : ByteArray) : Option (List S55 × Int × Int) := if a0.size ≤ 140737488351232 then some ((lexR a0).1.map cvt, (lexR a0).2.1, (lexR a0).2.2) else none
theorem replevinref01_Lex.calls (a0 : ByteArray) (r1 : List S55) (r2 r3 : Int) (w : World) (h : replevinref01_Lex.f a0 = some (r1, r2, r3)) :
    Calls Tryd.prog 22 #[.string a0] w fun e w' => ∃ v0_ : Value, e = .returned (.tuple #[v0_, .int .i64 r2, .int .i64 r3]) ∧ Kd.R k55 55 w' w.heap.size (fun _ => True) v0_ r1 ∧ Below w.heap.size w w' := by
  unfold replevinref01_Lex.f at h
  split at h
  · rename_i hs
    have h' : ((lexR a0).1.map cvt, (lexR a0).2.1, (lexR a0).2.2) = (r1, r2, r3) := Option.some.inj h
    injection h' with h1 h2
    injection h2 with h2 h3
    subst h1 h2 h3
    exact RLex_any a0 hs w
  · cases h
end Go.Proofs.YtdphomiljkclbaaDoor.P
