/- The law LexParts, walked: statements, with a sign behind each, are all tokens again. No conditions beyond those typed. -/
import Derived.Test.YtaempeleddamlaaLexZ
import Derived.Test.YtaempeleddamlaaLexV
namespace Go.Proofs.Ytaempeleddamlaa
set_option linter.unusedVariables false
set_option linter.unusedSimpArgs false
open Go.RowKit Go.Proofs.YtaempeleddamlaaW.PrintWords Go.Proofs.YtaempeleddamlaaW.PrintLast Go.Proofs.YtaempeleddamlaaW.PrintMore Go.Proofs.Ytaempeleddamlaa.P

/-- Tokens, parted: each part, and a sign behind it. -/
inductive Parted : List S35 → List (List S35) → Prop
  | nil : Parted [] []
  | cons (x : List S35) (t : S35) {l : List S35} {ps : List (List S35)} (hx : ∀ y ∈ x, y.f0 ≠ 3) (ht : t.f0 = 3) (h : Parted l ps) : Parted (x ++ t :: l) (x :: ps)
theorem stL_parted : ∀ (l cur : List S35), (∀ y ∈ cur, y.f0 ≠ 3) → (stL cur l).2 = [] → Parted (cur ++ l) (stL cur l).1
  | [], cur, hc, h => by
    simp only [stL] at h ⊢
    subst h
    exact .nil
  | t :: l, cur, hc, h => by
    simp only [stL] at h ⊢
    by_cases ht : t.f0 = 3
    · simp only [ht, if_true] at h ⊢
      exact .cons cur t hc ht (stL_parted l [] (fun y hy => by cases hy) h)
    · simp only [ht, if_false] at h ⊢
      have := stL_parted l (cur ++ [t]) (fun y hy => by
        rcases List.mem_append.1 hy with h1 | h1
        · exact hc y h1
        · rw [List.mem_singleton.1 h1]; exact ht) h
      simpa using this
theorem stL_rest : ∀ (l cur : List S35), (∀ y ∈ cur, y.f0 ≠ 3) → (stL cur l).2 ≠ [] → ∃ u t, cur ++ l = u ++ [t] ∧ t.f0 ≠ 3
  | [], cur, hc, h => by
    simp only [stL] at h
    refine ⟨cur.dropLast, cur.getLast h, ?_, hc _ (List.getLast_mem h)⟩
    rw [List.append_nil, List.dropLast_concat_getLast h]
  | t :: l, cur, hc, h => by
    simp only [stL] at h
    by_cases ht : t.f0 = 3
    · simp only [ht, if_true] at h
      obtain ⟨u, t', h1, h2⟩ := stL_rest l [] (fun y hy => by cases hy) h
      exact ⟨cur ++ t :: u, t', by simpa using h1, h2⟩
    · simp only [ht, if_false] at h
      obtain ⟨u, t', h1, h2⟩ := stL_rest l (cur ++ [t]) (fun y hy => by
        rcases List.mem_append.1 hy with h1 | h1
        · exact hc y h1
        · rw [List.mem_singleton.1 h1]; exact ht) h
      exact ⟨u, t', by rw [← h1]; simp, h2⟩
theorem eqTok (d : Nat) (w : World) (x0 y0 : Int) (x1 y1 : ByteArray) (x2 y2 : Int) (x3 y3 : Int) :
    (Op.equalIn (d + 2) 35 (.agg #[.int .i64 x0, .string x1, .int .i64 x2, .int .i64 x3]) (.agg #[.int .i64 y0, .string y1, .int .i64 y2, .int .i64 y3])).run Try.prog w = .ok (x0 == y0 && (x1.toList == y1.toList && (x2 == y2 && (x3 == y3)))) w := by
  refine eqA_of Try.underlying35 (by kernel_rfl) ?_
  refine eqf_cons (by rfl) (by go_simp; rfl) (by go_simp; rfl) (by go_simp) ?_
  refine eqf_cons (by rfl) (by go_simp; rfl) (by go_simp; rfl) (by go_simp) ?_
  refine eqf_cons (by rfl) (by go_simp; rfl) (by go_simp; rfl) (by go_simp) ?_
  exact eqf_last (by rfl) (by go_simp; rfl) (by go_simp; rfl) (by go_simp)
theorem neqTok (w : World) (x0 x2 x3 : Int) (x1 : ByteArray) : (binOp .neq 35 (.agg #[.int .i64 x0, .string x1, .int .i64 x2, .int .i64 x3]) (.agg #[.int .i64 x0, .string x1, .int .i64 x2, .int .i64 x3])).run Try.prog w = .ok (.bool false) w := by
  simp only [binOp]
  simp [Op.equal, Op.maxDepth, eqTok]
theorem gtP_len (w : World) (A : Option Addr) (n : Nat) (ps : List (List S35)) (h : Kd.C (Kd.slice 35 k35) w A n ps) (i : Nat) (hi : i < n) :
    ∃ ad A2 c2, A = some ad ∧ w.cell? (ad.add i) = some (.slice A2 (ps.getD i []).length c2) ∧ (ps.getD i []).length ≤ c2 ∧ Kd.C k35 w A2 (ps.getD i []).length (ps.getD i []) := by
  obtain ⟨ad, cs, rfl, h1, ⟨A2, c2, rfl, h3, h4⟩, h5⟩ := Kd.C_get h [] i (by omega) (by omega)
  have := h5 0 _ rfl
  rw [Int.toNat_natCast] at this h3 h4
  rw [show (Kd.slice 35 k35).sz = 1 from rfl, Nat.mul_one, Nat.add_zero] at this
  exact ⟨ad, A2, c2, rfl, this, h3, h4⟩
theorem fixedC {w w1 : World} {A : Option Addr} {n : Nat} {ps : List (List S35)} (h : (kParts w).C w1 A n ps) (hb : Below w.heap.size w w1) : Kd.C (Kd.slice 35 k35) w1 A n ps := by
  unfold Kd.C at h ⊢
  exact h.imp_ (Below.refl _ _) (fun p c hp => (Kd.slice 35 k35).K_below hb hp)
theorem drop_part {α : Type} (d : α) {l x r : List α} {i m : Nat} (h : l.drop i = x ++ r) (hm : m < x.length) : i + m < l.length ∧ l.getD (i + m) d = x.getD m d := by
  have h1 : (l.drop i)[m]? = x[m]? := by rw [h, List.getElem?_append_left hm]
  rw [List.getElem?_drop] at h1
  have h2 : x[m]? = some x[m] := List.getElem?_eq_getElem hm
  rw [h2] at h1
  exact ⟨(List.getElem?_eq_some_iff.1 h1).1, by rw [List.getD_eq_getElem?_getD, List.getD_eq_getElem?_getD, h1, h2]⟩
theorem getD_mem {α : Type} (d : α) {x : List α} {m : Nat} (hm : m < x.length) : x.getD m d ∈ x := by
  rw [List.getD_eq_getElem?_getD, List.getElem?_eq_getElem hm]
  exact List.getElem_mem hm
theorem cell_al {w : World} {a : Addr} {v : Value} (h : w.cell? a = some v) (o : Obj) : (w.alloc o).cell? a = some v := (World.cell?_alloc_lt w o a (World.block_lt_of_cell? w _ h)).trans h
theorem Parted.inv {l : List S35} {ps : List (List S35)} (h : Parted l ps) : (ps = [] ∧ l = []) ∨ ∃ x t l' ps', ps = x :: ps' ∧ l = x ++ t :: l' ∧ (∀ y ∈ x, y.f0 ≠ 3) ∧ t.f0 = 3 ∧ Parted l' ps' := by
  cases h with
  | nil => exact .inl ⟨rfl, rfl⟩
  | cons x t hx ht h => exact .inr ⟨x, t, _, _, rfl, rfl, hx, ht, h⟩
theorem rd_drop (l x r : List S35) (i m : Nat) (h : l.drop i = x ++ r) (hm : m < x.length) : i + m < l.length ∧ rd_T35 l ((i + m : Nat) : Int) = rd_T35 x (m : Nat) := by
  have := drop_part z35 h hm
  exact this
set_option maxHeartbeats 4000000 in
set_option maxRecDepth 100000 in
theorem LexParts_walk (s : ByteArray) (w : World) (hs : s.size ≤ 140737488351232) :
    Calls Try.prog 7 #[.string s] w fun e w' => e = .returned (.bool true) ∧ Below w.heap.size w w' := by
  have hu := Try.underlying35
  have hL := Lib.hid (Lex_any s hs)
  by_cases h0 : 4096 < s.size
  · go_enter Try.func7, Try.ntmps7
    go_wp2_with (go_at_call 8; refine (awake_any _).mono ?_; rintro e w1 ⟨rfl, hb1⟩; have HB1 := Lib.hid hb1; clear hb1)
    go_ret
    exact ⟨rfl, HB1.out⟩
  cases hx : lexAt s 0 0 with
  | inr pe =>
    obtain ⟨p, ee⟩ := pe
    obtain ⟨l, q, hp, h1, h2, h3, h4, h5, h6⟩ := lexAt_err s.size 0 0 p ee (by omega) (by omega) hx
    have hne : (ee != 0) = true := by rcases h6 with h6 | h6 <;> rw [h6.1] <;> rfl
    rw [Pure.lexR_err hx] at hL
    clear hx hp h1 h2 h3 h4 h5 h6
    go_enter Try.func7, Try.ntmps7
    go_wp2_with (first | (go_at_call 8; refine (awake_any _).mono ?_; rintro e w1 ⟨rfl, hb1⟩; have HB1 := Lib.hid hb1; clear hb1) | (go_at_call 9; refine (hL.out _).mono ?_; rintro e w2 ⟨v, rfl, hR, hb2⟩; have HB2 := Lib.hid (HB1.out.trans (hb2.mono HB1.out.size)); clear hb2 hR))
    go_ret
    exact ⟨rfl, HB2.out⟩
  | inl l =>
    have hlen := lexAt_len s s.size 0 0 l (by omega) (by omega) hx
    rw [Pure.lexR_ok hx] at hL
    clear hx
    have hlen' : l.length ≤ 5000 := by omega
    clear hlen
    have hSt := Lib.hid (fun A c w h h2 => Statements_any A c l w h h2 (by omega))
    have lexarm : True := trivial
    cases hst : (stL [] l).2 with
    | cons t0 rest =>
      obtain ⟨u, t, h1, h2⟩ := stL_rest l [] (fun y hy => by cases hy) (by rw [hst]; simp)
      have hR : stR l = ([], t0.f3, 2) := by unfold stR; rw [hst]
      rw [hR] at hSt
      rw [List.nil_append] at h1
      have hlu : l.length = u.length + 1 := by rw [h1]; simp
      have hrd : rd_T35 l ((l.length - 1 : Nat) : Int) = t := by
        rw [hlu, h1]
        simp [rd_T35]
      have HRD := Lib.hid hrd
      have h2' : (t.f0 != 3) = true := by simpa using h2
      clear hst hR h1 hrd h2
      have hpos : 0 < l.length := by omega
      have HLU := Lib.hid hlu
      clear hlu
      go_enter Try.func7, Try.ntmps7
      go_wp2_with (first | (go_at_call 8; refine (awake_any _).mono ?_; rintro e w1 ⟨rfl, hb1⟩; have HB1 := Lib.hid hb1; clear hb1) | (go_at_call 9; refine (hL.out _).mono ?_; rintro e w2 ⟨v, rfl, hR, hb2⟩; have HB2 := Lib.hid (HB1.out.trans (hb2.mono HB1.out.size)); clear hb2; obtain ⟨A, c, rfl, hc, hC⟩ := Kd.R_reads hR; clear hR; have HC := Lib.hid hC; clear hC))
      refine (hSt.out _ _ _ HC.out hc).mono ?_
      rintro e w3 ⟨v3, rfl, hR3, hb3⟩
      have HB3 := Lib.hid (HB2.out.trans (hb3.mono HB2.out.size))
      have HC3 := Lib.hid (Kd.C_below HC.out hb3)
      clear hR3 hb3
      obtain ⟨ad, ee, hx0, hx1, hx2, hx3⟩ := at_T35 HC3.out ((l.length - 1 : Nat) : Int) (by omega) (by omega)
      cases ee
      rw [HRD.out] at hx0
      clear hx1 hx2 hx3
      rw [Int.toNat_natCast] at hx0
      have hsub : ((l.length : Int) - 1).toNat = l.length - 1 := by omega
      go_wp2
      go_ret
      exact ⟨by first | rfl | (rw [h2']; rfl), HB3.out⟩
    | nil =>
      have hPt := stL_parted l [] (fun y hy => by cases hy) hst
      rw [List.nil_append] at hPt
      have hR : stR l = ((stL [] l).1, 0, 0) := by unfold stR; rw [hst]
      rw [hR] at hSt
      obtain ⟨ps, hps⟩ : ∃ ps, ps = (stL [] l).1 := ⟨_, rfl⟩
      rw [← hps] at hPt hSt
      have HP := Lib.hid hPt
      clear hst hR hPt hps
      have hneq := neqTok
      go_enter Try.func7, Try.ntmps7
      go_wp2_with (first | (go_at_call 8; refine (awake_any _).mono ?_; rintro e w1 ⟨rfl, hb1⟩; have HB1 := Lib.hid hb1; clear hb1) | (go_at_call 9; refine (hL.out _).mono ?_; rintro e w2 ⟨v, rfl, hR, hb2⟩; have HB2 := Lib.hid (HB1.out.trans (hb2.mono HB1.out.size)); clear hb2; obtain ⟨A, c, rfl, hc, hC⟩ := Kd.R_reads hR; clear hR; have HC := Lib.hid hC; clear hC))
      refine (hSt.out _ _ _ HC.out hc).mono ?_
      rintro e w3 ⟨v3, rfl, hR3, hb3⟩
      have HB3 := Aside0.mk (HB2.out.trans (hb3.mono HB2.out.size))
      have HC3 := Aside0.mk (Kd.C_below HC.out hb3)
      obtain ⟨A3, c3, rfl, hc3, hC3⟩ := Kd.R_reads hR3
      have HD3 := Aside0.mk (fixedC hC3 hb3)
      clear hR3 hb3 hC3
      have hps3 := Kd.C_max HD3.out
      go_wp2
      go_loopw [9, 50] (fun i q w' => ∃ (i' q' : Nat), i = .int .i64 i' ∧ q = .int .i64 q' ∧ i' ≤ l.length ∧ q' ≤ ps.length ∧ Aside0 (Parted (l.drop i') (ps.drop q')) ∧ Aside0 (Kd.C k35 w' A l.length l) ∧ Aside0 (Kd.C (Kd.slice 35 k35) w' A3 ps.length ps) ∧ Aside0 (Below w.heap.size w w')) (fun _ q _ => ps.length - (intOf q).toNat)
      case atStart => exact ⟨0, 0, rfl, rfl, by omega, by omega, ⟨by simpa using HP.out⟩, HC3, HD3, HB3⟩
      case round =>
        clear HC3 HD3 HB3
        obtain ⟨i, q, rfl, rfl, hi, hq, HPt, HC4, HD4, HB4⟩ := hrel
        by_cases hlt : q < ps.length
        · obtain ⟨ad, A5, c5, rfl, hcell, hl5, hC5⟩ := gtP_len _ _ _ _ HD4.out q hlt
          rcases HPt.out.inv with ⟨h1, _⟩ | ⟨x, t, l', ps', h1, h2, h3, h4, h5⟩
          · have := List.drop_eq_nil_iff.1 h1
            omega
          have hget : ps.getD q [] = x := by
            have : (ps.drop q)[0]? = some x := by rw [h1]; rfl
            rw [List.getElem?_drop, Nat.add_zero] at this
            rw [List.getD_eq_getElem?_getD, this]; rfl
          rw [hget] at hcell hl5 hC5
          have hdr : ps.drop (q + 1) = ps' := by rw [← List.drop_drop, h1]; rfl
          have hix : i + x.length < l.length := (drop_part z35 (x := x ++ [t]) (r := l') (m := x.length) (by rw [h2]; simp) (by simp)).1
          have hrt : rd_T35 l ((i + x.length : Nat) : Int) = t := by
            have := (rd_drop l (x ++ [t]) l' i x.length (by rw [h2]; simp) (by simp)).2
            rw [this]
            simp [rd_T35]
          have hdl : l.drop (i + x.length + 1) = l' := by
            rw [show i + x.length + 1 = i + (x.length + 1) by omega, ← List.drop_drop, h2]
            simp
          have HX := Lib.hid (fun m (hm : m < x.length) => rd_drop l x (t :: l') i m h2 hm)
          have HN := Lib.hid h3
          have HT := Lib.hid h4
          have HRT := Lib.hid hrt
          have HP5 := Lib.hid h5
          have HDR := Lib.hid hdr
          have HDL := Lib.hid hdl
          have HC5 := Aside0.mk hC5
          clear h1 h2 h3 h4 h5 hget hdr hrt hdl hC5
          go_wp2
          go_loopw [9, 56] (fun i2 m2 w' => ∃ m J : Nat, i2 = .int .i64 J ∧ m2 = .int .i64 m ∧ m ≤ x.length ∧ Aside0 (J = i + m) ∧ Aside0 (Kd.C k35 w' A l.length l) ∧ Aside0 (Kd.C (Kd.slice 35 k35) w' (some ad) ps.length ps) ∧ Aside0 (Kd.C k35 w' A5 x.length x) ∧ Aside0 (Below w.heap.size w w')) (fun _ m _ => x.length - (intOf m).toNat)
          case atStart => exact ⟨0, i, rfl, rfl, by omega, ⟨rfl⟩, HC4, HD4, HC5, HB4⟩
          case round =>
            clear HC4 HD4 HC5 HB4 hcell
            obtain ⟨m, J, rfl, rfl, hm, HJ, HC6, HD6, HE6, HB6⟩ := hrel
            by_cases hmx : m < x.length
            · obtain ⟨hm1, hm2⟩ := HX.out m hmx
              obtain ⟨ad5, ee, hx0, hx1, hx2, hx3⟩ := at_T35 HE6.out m (by omega) (by omega)
              cases ee
              rw [← HJ.out] at hm1 hm2
              obtain ⟨ad6, ee, hy0, hy1, hy2, hy3⟩ := at_T35 HC6.out (J : Int) (by omega) (by omega)
              cases ee
              rw [hm2] at hy0 hy1 hy2 hy3
              have hn3 := HN.out _ (getD_mem z35 hmx)
              have hn3' : (rd_T35 x m).f0 ≠ 3 := hn3
              have hn4 : ((rd_T35 x m).f0 == 3) = false := by simpa using hn3'
              clear hm2 hn3 hn3'
              rw [Int.toNat_natCast] at hx0 hx1 hx2 hx3 hy0 hy1 hy2 hy3
              generalize rd_T35 x m = tk at *
              obtain ⟨t0, t1, t2, t3⟩ := tk
              simp only [] at hx0 hx1 hx2 hx3 hy0 hy1 hy2 hy3 hn4
              have hge2 : decide (l.length ≤ J) = false := by simp; omega
              replace hy0 := cell_al hy0 (.cells #[.int .i64 t0, .string t1, .int .i64 t2, .int .i64 t3] 35)
              replace hy1 := cell_al hy1 (.cells #[.int .i64 t0, .string t1, .int .i64 t2, .int .i64 t3] 35)
              replace hy2 := cell_al hy2 (.cells #[.int .i64 t0, .string t1, .int .i64 t2, .int .i64 t3] 35)
              replace hy3 := cell_al hy3 (.cells #[.int .i64 t0, .string t1, .int .i64 t2, .int .i64 t3] 35)
              go_wp2
              go_quiet (fail)
              go_wp2
              go_roundw
              case rel => exact ⟨m + 1, J + 1, by go_num, by go_num, by omega, ⟨by have := HJ.out; omega⟩, ⟨Kd.C_drewN (Kd.C_alloc HC6.out _) _⟩, ⟨Kd.C_drewN (Kd.C_alloc HD6.out _) _⟩, ⟨Kd.C_drewN (Kd.C_alloc HE6.out _) _⟩, ⟨pw_below_drewN (below_alloc HB6.out _) _⟩⟩
              case measure => simp [intOf]; omega
            · obtain rfl : m = x.length := by omega
              have hJx : J < l.length := by have := HJ.out; omega
              have HJr : Hid (rd_T35 l (J : Int) = t) := by rw [HJ.out]; exact HRT.out
              obtain ⟨ad6, ee, hy0, hy1, hy2, hy3⟩ := at_T35 HC6.out (J : Int) (by omega) (by omega)
              cases ee
              rw [HJr.out, HT.out] at hy0
              clear hy1 hy2 hy3
              rw [Int.toNat_natCast] at hy0
              go_wp2
              go_roundw
              case rel => exact ⟨J + 1, q + 1, by go_num, by go_num, by omega, by omega, ⟨by rw [HDR.out, HJ.out, HDL.out]; exact HP5.out⟩, HC6, HD6, HB6⟩
              case measure => simp [intOf]; omega
        · obtain rfl : q = ps.length := by omega
          rcases HPt.out.inv with ⟨h1, h2⟩ | ⟨x, t, l', ps', h1, h2, h3, h4, h5⟩
          · have h3 := List.drop_eq_nil_iff.1 h2
            have hil : ((i : Int) == l.length) = true := by simp; omega
            clear h1 h2 h3
            go_wp2
            go_ret
            exact ⟨rfl, HB4.out⟩
          · simp at h1
end Go.Proofs.Ytaempeleddamlaa
