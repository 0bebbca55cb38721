/- Lemmas and contracts for the functions of one layer of the document's answer, used by the law's proof. No conditions beyond those typed. -/
import Derived.Test.YtdphomiljkclbaaDoorOrdP
import Derived.Test.YtdphomiljkclbaaDoorOrdN
import Derived.Test.YtdphomiljkclbaaDoorP2
namespace Go.Proofs.YtdphomiljkclbaaDoor
set_option linter.unusedVariables false
set_option linter.unusedSimpArgs false
open Go.RowKit Go.Proofs.YtdphomiljkclbaaDoorW.PrintWords Go.Proofs.YtdphomiljkclbaaDoorW.PrintLast Go.Proofs.YtdphomiljkclbaaDoorW.PrintMore Go.Proofs.YtdphomiljkclbaaDoor.P

abbrev rdR (L : List S55) (i : Int) : S55 := rd_T55 L i
theorem at_tokR {w : World} {A : Option Addr} {L : List S55} (hC : Kd.C k55 w A L.length L) (i : Nat) (h : i < L.length) : ∃ ad, A = some ad ∧ w.cell? (ad.add (i * 4)) = some (.int .i64 (rdR L i).f0) ∧ w.cell? ⟨(ad.add (i * 4)).block, (ad.add (i * 4)).off + 1, none⟩ = some (.string (rdR L i).f1) ∧ w.cell? ⟨(ad.add (i * 4)).block, (ad.add (i * 4)).off + 2, none⟩ = some (.int .i64 (rdR L i).f2) ∧ w.cell? ⟨(ad.add (i * 4)).block, (ad.add (i * 4)).off + 3, none⟩ = some (.int .i64 (rdR L i).f3) := by
  obtain ⟨ad, e, c0, c1, c2, c3⟩ := at_T55 hC (i : Int) (by omega) (by omega)
  rw [Int.toNat_natCast] at c0 c1 c2 c3
  exact ⟨ad, e, c0, c1, c2, c3⟩
theorem at_tokR0 {w : World} {A : Option Addr} {L : List S55} (hC : Kd.C k55 w A L.length L) (h : 0 < L.length) : ∃ ad, A = some ad ∧ w.cell? ad = some (.int .i64 (rdR L 0).f0) ∧ w.cell? ⟨ad.block, ad.off + 1, none⟩ = some (.string (rdR L 0).f1) ∧ w.cell? ⟨ad.block, ad.off + 2, none⟩ = some (.int .i64 (rdR L 0).f2) ∧ w.cell? ⟨ad.block, ad.off + 3, none⟩ = some (.int .i64 (rdR L 0).f3) := by
  obtain ⟨ad, e, c0, c1, c2, c3⟩ := at_tokR hC 0 h
  have ha : ad.add (0 * 4) = ad := by simp [Addr.add]
  rw [ha] at c0 c1 c2 c3
  exact ⟨ad, e, c0, c1, c2, c3⟩
theorem tokR_later {wx wr : World} {base : Nat} {ok : Nat → Prop} {A : Option Addr} {c : Nat} {L : List S55} (HR : Kd.R k55 55 wx base ok (.slice A L.length c) L) (hb : Below wx.heap.size wx wr) : Kd.C k55 wr A L.length L :=
  (Kd.R_reads' (Kd.R_below HR hb)).2.2
theorem place_f (s : ByteArray) (l : List Tk) (i : Nat) : replevinref15_place.f s (l.map cvt) i = some (placeO s l i) := by
  unfold replevinref15_place.f placeO
  by_cases h : i < l.length
  · rw [if_pos (by rw [List.length_map]; omega), if_pos (by omega), if_pos h, rd_cvt]; rfl
  · rw [if_neg (by rw [List.length_map]; omega), if_neg h]
theorem word_name (k : Int) (h1 : 1 ≤ k) (h9 : k ≤ 9) : nameR (wordB k) = true :=
  kinds (p := fun k => nameR (wordB k) = true) ⟨by kernel_rfl, by kernel_rfl, by kernel_rfl, by kernel_rfl, by kernel_rfl, by kernel_rfl, by kernel_rfl, by kernel_rfl, by kernel_rfl⟩ k h1 h9
theorem form_len (k : Int) : 1 ≤ (formL k).length ∧ (formL k).length ≤ 4 := by
  rw [formL_len]
  have := partsK_size k
  omega
theorem wrap_next (i j : Nat) (h : i ≤ 100) (hj : j = i + 1) : wrap64 ((i : Int) + 1) = (j : Int) := by
  unfold wrap64; omega
theorem res5r {wr : World} {g : Nat} {o' : Ord} (h : wr.heap[g]? = some (.cells #[Value.int IntKind.i64 o'.k, Value.string o'.c, Value.string o'.e, Value.string o'.u, Value.int IntKind.i64 o'.n] 29 (0, 0))) (o : Ord) :
    (((((wr.setCell ⟨g, 0, none⟩ (.int .i64 o.k)).setCell ⟨g, 1, none⟩ (.string o.c)).setCell ⟨g, 2, none⟩ (.string o.e)).setCell ⟨g, 3, none⟩ (.string o.u)).setCell ⟨g, 4, none⟩ (.int .i64 o.n)).heap[g]? = some (.cells #[Value.int IntKind.i64 o.k, Value.string o.c, Value.string o.e, Value.string o.u, Value.int IntKind.i64 o.n] 29 (0, 0)) := by
  simpa using blk_set (blk_set (blk_set (blk_set (blk_set h 0 (.int .i64 o.k)) 1 (.string o.c)) 2 (.string o.e)) 3 (.string o.u)) 4 (.int .i64 o.n)
theorem resFr {wr : World} {g : Nat} {o' : Ord} (h : wr.heap[g]? = some (.cells #[Value.int IntKind.i64 o'.k, Value.string o'.c, Value.string o'.e, Value.string o'.u, Value.int IntKind.i64 o'.n] 29 (0, 0))) :
    wr.cell? ⟨g, 0, none⟩ = some (.int .i64 o'.k) ∧ wr.cell? ⟨g, 1, none⟩ = some (.string o'.c) ∧ wr.cell? ⟨g, 2, none⟩ = some (.string o'.e) ∧ wr.cell? ⟨g, 3, none⟩ = some (.string o'.u) ∧ wr.cell? ⟨g, 4, none⟩ = some (.int .i64 o'.n) ∧
    wr.frozen? ⟨g, 0, none⟩ = false ∧ wr.frozen? ⟨g, 1, none⟩ = false ∧ wr.frozen? ⟨g, 2, none⟩ = false ∧ wr.frozen? ⟨g, 3, none⟩ = false ∧ wr.frozen? ⟨g, 4, none⟩ = false :=
  ⟨blk_cell h 0, blk_cell h 1, blk_cell h 2, blk_cell h 3, blk_cell h 4, blk_frozen h 0, blk_frozen h 1, blk_frozen h 2, blk_frozen h 3, blk_frozen h 4⟩
theorem res_exitr {w wr : World} {tmps : Array Value} {g : Nat} {o' : Ord} (h : wr.heap[g]? = some (.cells #[Value.int IntKind.i64 o'.k, Value.string o'.c, Value.string o'.e, Value.string o'.u, Value.int IntKind.i64 o'.n] 29 (0, 0))) (hp : tmps.getD 2 undef = .pointer (some ⟨g, 0, none⟩)) {x y : Int} (hx : tmps.getD 3 undef = .int .i64 x) (hy : tmps.getD 4 undef = .int .i64 y) {r : Ord × Int × Int} (hr : r = (o', x, y)) (hb : Below w.heap.size w wr) :
    bodyPost Tryd.prog Tryd.f10 (fun e w' => e = .returned (.tuple #[ordV r.1, .int .i64 r.2.1, .int .i64 r.2.2]) ∧ Below w.heap.size w w') .ret { tmps := tmps, defers := [] } wr := by
  subst hr
  refine bodyPost_ret (results_ctt rfl _ _ g 29 #[Value.int IntKind.i64 o'.k, Value.string o'.c, Value.string o'.e, Value.string o'.u, Value.int IntKind.i64 o'.n] (0, 0) _ hp h Tryd.underlying29 rfl (by kernel_rfl)) rfl ⟨?_, hb⟩
  show Ending.returned (Value.tuple #[_, tmps.getD 3 undef, tmps.getD 4 undef]) = _
  rw [hx, hy]

set_option maxHeartbeats 4000000 in
set_option maxRecDepth 100000 in
theorem R15Read_any (s : ByteArray) (hs : s.size ≤ 140737488351232) (w : World) :
    Calls Tryd.prog 10 #[.string s] w fun e w' => e = .returned (.tuple #[ordV (readR s).1, .int .i64 (readR s).2.1, .int .i64 (readR s).2.2]) ∧ Below w.heap.size w w' := by
  have hu := Tryd.underlying29
  obtain ⟨l, at_, er, hL⟩ : ∃ l at_ er, lexR s = (l, at_, er) := ⟨_, _, _, rfl⟩
  have hnm : Hid (∀ i : Nat, i < l.length → ((rdT l i).f0 = 1 → nameR (rdT l i).f1 = true) ∧ (nameR (rdT l i).f1 = true → (rdT l i).f0 = 1)) := by have h := lexR_name s; rw [hL] at h; exact h
  obtain ⟨L, hLd⟩ : ∃ L, L = l.map cvt := ⟨_, rfl⟩
  have hlen : Hid (L.length = l.length) := by show _ = _; rw [hLd, List.length_map]
  have hrd : Hid (∀ i : Nat, rdR L i = cvt (rdT l i)) := fun i => by rw [hLd]; exact rd_cvt l i
  have hpf : Hid (∀ i : Nat, replevinref15_place.f s L i = some (placeO s l i)) := fun i => by rw [hLd]; exact place_f s l i
  have hlx : Hid (∀ W, Calls Tryd.prog 22 #[.string s] W fun e w' => ∃ v0_ : Value, e = .returned (.tuple #[v0_, .int .i64 at_, .int .i64 er]) ∧ Kd.R k55 55 w' W.heap.size (fun _ => True) v0_ L ∧ Below W.heap.size W w') := fun W => replevinref01_Lex.calls s L at_ er W (by unfold replevinref01_Lex.f; rw [if_pos hs, hL, hLd])
  have HL := Lib.hid hL
  clear hL hLd
  go_enter Tryd.func10, Tryd.ntmps10
  have hb0 := Lib.hid (below_alloc (Below.refl w.heap.size w) (.cells #[Value.int IntKind.i64 0, Value.string ⟨#[]⟩, Value.string ⟨#[]⟩, Value.string ⟨#[]⟩, Value.int IntKind.i64 0] 29))
  have hZ0 := Lib.hid (blk_new w (.cells #[Value.int IntKind.i64 0, Value.string ⟨#[]⟩, Value.string ⟨#[]⟩, Value.string ⟨#[]⟩, Value.int IntKind.i64 0] 29))
  generalize hW : w.alloc (.cells #[Value.int IntKind.i64 0, Value.string ⟨#[]⟩, Value.string ⟨#[]⟩, Value.string ⟨#[]⟩, Value.int IntKind.i64 0] 29) = W at *
  go_upto_region 2 with (go_at_call 22; refine (hlx.out _).mono ?_; rintro e w1 ⟨v, rfl, hR1, hb1⟩; obtain ⟨A, c, rfl, hlc, _⟩ := Kd.R_reads hR1; have HB1 := Lib.hid hb1; have HRx := Lib.hid hR1; clear hb1 hR1)
  have hws : w.heap.size + 1 = W.heap.size := by rw [← hW]; simp
  have hZx := Lib.hid ((HB1.out.block w.heap.size (by omega)).trans hZ0.out)
  have HBW := Lib.hid (hb0.out.trans (HB1.out.mono (by omega)))
  have hgx : w.heap.size < w1.heap.size := blk_lt hZx.out
  clear hZ0 hb0 HB1 hW
  rename World => w1
  by_cases her : er = 0
  · have hR : Hid (readR s = readL s l) := by show _ = _; unfold readR; rw [HL.out]; simp [her]
    subst her
    by_cases h0 : 0 < L.length
    · obtain ⟨ad, rfl, c0, c1, c2, c3⟩ := at_tokR0 (Kd.R_reads' HRx.out).2.2 h0
      have hne : ((L.length : Int) == 0) = false := beq_eq_false_iff_ne.2 (by omega)
      have hlt0 : (0 : Int) < (L.length : Int) := by omega
      obtain ⟨tw, htw⟩ : ∃ tw, tw = (rdR L 0).f1 := ⟨_, rfl⟩
      have htl : Hid (tw = (rdT l 0).f1) := by show _ = _; rw [htw]; exact congrArg (·.f1) (hrd.out 0)
      rw [← htw] at c1
      have HTW := Lib.hid htw
      clear htw
      by_cases hk : kindB tw = 0
      · have hRR : Hid (readR s = (zeroO, placeO s l 0, 2)) := by show _ = _; rw [hR.out]; unfold readL; exact if_neg (fun h => h.2.2 (by rw [← htl.out]; exact hk))
        have hfm := Lib.hid (form_none hk)
        clear hk
        go_wp2_with (first
          | (go_at_call 23; refine (replevinref15_form.calls 1 tw [] _ hfm.out).mono ?_; rintro e w3 ⟨v3, rfl, hR3, hb3⟩; obtain ⟨A3, c3', rfl, _, _⟩ := Kd.R_reads hR3; have HB3 := Lib.hid hb3; clear hb3 hR3; have HZ3 := Lib.hid ((HB3.out.block w.heap.size hgx).trans hZx.out); obtain ⟨z0, z1, z2, z3, z4, f0, f1, f2, f3, f4⟩ := resFr (o' := zeroO) HZ3.out)
          | (go_at_call 24; refine (replevinref15_place.calls s (some ad) c L 0 (placeO s l 0) _ (tokR_later HRx.out HB3.out) hlc (hpf.out 0)).mono ?_; rintro e w4 ⟨rfl, ⟨n2, rfl⟩⟩))
        refine res_exitr (res5r (wr := w3.drewN n2) (o' := zeroO) HZ3.out zeroO) ?_ ?_ ?_ hRR.out (below5 (g := w.heap.size) (pw_below_drewN (HBW.out.trans (HB3.out.mono HBW.out.size)) n2) (Nat.le_refl _) zeroO) <;> rfl
      · have hkk : 1 ≤ kindB tw ∧ kindB tw ≤ 9 ∧ wordB (kindB tw) = tw := (kindB_eq tw).2.resolve_left hk
        have hf1 : (rdT l 0).f0 = 1 := (hnm.out 0 (by have := hlen.out; omega)).2 (by show nameR (rdT l 0).f1 = true; rw [← htl.out, ← hkk.2.2]; exact word_name _ hkk.1 hkk.2.1)
        have hfm : Hid (replevinref15_form.f 1 tw = some (formL (kindB tw))) := by have h := form_word (kindB tw) hkk.1 hkk.2.1; rw [hkk.2.2] at h; exact h
        have hl0 : 0 < l.length := by have := hlen.out; omega
        have hkt : kindB (rdT l 0).f1 = kindB tw := by rw [← htl.out]
        have hfail : Hid (∀ i, i < (formL (kindB tw)).length → (∀ j, j < i → chk l (formL (kindB tw)) j) → ¬ chk l (formL (kindB tw)) i → readR s = (zeroO, placeO s l (i + 1), 2)) := fun i hi hp hn => hR.out.trans (readL_fail hl0 hf1 hkt hk i hi hp hn)
        have hpass : Hid ((∀ j, j < (formL (kindB tw)).length → chk l (formL (kindB tw)) j) → readR s = if (formL (kindB tw)).length + 1 < l.length then (zeroO, placeO s l ((formL (kindB tw)).length + 1), 2) else if mayO (readPo l (partsK (kindB tw)).data.toList 1 (o1 (kindB tw))) then (readPo l (partsK (kindB tw)).data.toList 1 (o1 (kindB tw)), 0, 0) else (zeroO, placeO s l 1, 3)) := fun hp => hR.out.trans (readL_pass hl0 hf1 hkt hk hp)
        have hFl := Lib.hid (form_len (kindB tw))
        obtain ⟨k0, hk0⟩ : ∃ k0, k0 = kindB tw := ⟨_, rfl⟩
        rw [← hk0] at hfm hfail hpass hFl hkk
        have HKK := Lib.hid hkk
        clear hk hkk hf1 hl0 hkt hk0 hR
        obtain ⟨F, hFd⟩ : ∃ F, F = formL k0 := ⟨_, rfl⟩
        rw [← hFd] at hfm hfail hpass hFl
        have HFd := Lib.hid hFd
        clear hFd
        have hadb : Hid (¬ ad.block = w.heap.size) := by
          obtain ⟨g, cap, hv, hbg, _, _⟩ := Kd.R_form HRx.out h0
          cases hv
          show ¬ g = w.heap.size
          omega
        have hadl : Hid (ad.block < w1.heap.size) := by
          obtain ⟨g, cap, hv, _, hbl, _⟩ := Kd.R_form HRx.out h0
          cases hv
          exact hbl
        have hFne : ((F.length : Int) == 0) = false := beq_eq_false_iff_ne.2 (by have := hFl.out; omega)
        go_upto_region 6 with (go_at_call 23; refine (replevinref15_form.calls 1 tw F _ hfm.out).mono ?_; rintro e w3 ⟨v3, rfl, hR3, hb3⟩; obtain ⟨A3, c3', rfl, _, _⟩ := Kd.R_reads hR3; have HB3 := Lib.hid hb3; clear hb3 hR3)
        clear c0 c1 c2 c3
        obtain ⟨ad, ha, c0, c1, c2, c3⟩ := at_tokR0 (tokR_later HRx.out HB3.out) h0
        cases ha
        rw [← HTW.out] at c1
        go_wp2_with (go_at_call 23; refine (replevinref15_form.calls 1 tw F _ hfm.out).mono ?_; rintro e w4 ⟨v4, rfl, hR4, hb4⟩; obtain ⟨A4, c4', rfl, hlc4, _⟩ := Kd.R_reads hR4; have HB4 := Lib.hid (HB3.out.trans (hb4.mono HB3.out.size)); have HR4 := Lib.hid hR4; clear hb4 hR4)
        clear c0 c1 c2 c3
        rename World => w4
        obtain ⟨adF, hA4, _⟩ := Kd.at_int (Kd.R_reads' HR4.out).2.2 0 (by omega) (by have := hFl.out; omega)
        subst hA4
        go_loopw [9] (fun v wr => ∃ (i n : Nat), v = .int .i64 (i : Int) ∧ Aside0 (i ≤ F.length) ∧ Aside0 (∀ j, j < i → chk l F j) ∧ wr = w4.drewN n) (fun v _ => F.length - (intOf v).toNat)
        case atStart => exact ⟨0, 0, rfl, ⟨Nat.zero_le _⟩, ⟨fun j h => absurd h (Nat.not_lt_zero j)⟩, rfl⟩
        case round =>
          obtain ⟨i, n, rfl, HI, HCH, rfl⟩ := hrel
          have HZ4 := Lib.hid ((HB4.out.block w.heap.size hgx).trans hZx.out)
          have HBW4 := Lib.hid (HBW.out.trans (HB4.out.mono HBW.out.size))
          by_cases hlt : i < F.length
          · have hltZ : (i : Int) < (F.length : Int) := by omega
            have h00 : (0 : Int) ≤ i := by omega
            obtain ⟨j, hj⟩ : ∃ j : Nat, j = i + 1 := ⟨_, rfl⟩
            have hw : wrap64 ((i : Int) + 1) = (j : Int) := wrap_next i j (by have := hFl.out; omega) hj
            have hw2 : IntKind.i64.wrap ((i : Int) + 1) = (j : Int) := (i64_w _).trans hw
            have HJ := Lib.hid hj
            have hfa := Lib.hid (hfail.out i hlt HCH.out)
            rw [← hj] at hfa
            have hpj := Lib.hid (hpf.out j)
            clear hj
            obtain ⟨ad3, hA3, cF⟩ := Kd.at_int (Kd.R_reads' HR4.out).2.2 (i : Int) h00 hltZ
            cases hA3
            rw [Int.toNat_natCast] at cF
            by_cases hin : j < L.length
            · have hinZ : (j : Int) < (L.length : Int) := by omega
              have h0j : (0 : Int) ≤ j := by omega
              have hdg : decide (L.length ≤ j) = false := decide_eq_false (Nat.not_le.2 hin)
              obtain ⟨ad2, ha, c0, c1, c2, c3⟩ := at_tokR (tokR_later HRx.out HB4.out) j hin
              cases ha
              by_cases hkd : (rdR L j).f0 = rd F i
              · have hch : Hid (∀ j', j' < i + 1 → chk l F j') := fun j' hj' => by
                  clear hw hw2
                  rcases Nat.lt_or_ge j' i with h | h
                  · exact HCH.out j' h
                  · obtain rfl : j' = i := by omega
                    refine ⟨by have := HJ.out; have := hlen.out; omega, ?_⟩
                    have h2 := hrd.out j
                    rw [HJ.out] at h2
                    rw [HJ.out] at hkd
                    rw [h2] at hkd
                    exact hkd
                have hf : ((rdR L j).f0 != rd F i) = false := by simp [hkd]
                clear hkd
                go_upto_region 10 with fail
                go_quiet (fail)
                go_wp2
                refine ⟨⟨j, _, rfl, ⟨by have := HJ.out; omega⟩, ⟨by rw [HJ.out]; exact hch.out⟩, rfl⟩, ?_⟩
                have := HJ.out
                simp [intOf]; omega
              · have hRR : Hid (readR s = (zeroO, placeO s l j, 2)) := hfa.out (fun hc => hkd (by
                  have h2 := hrd.out j
                  rw [h2]
                  have h3 := hc.2
                  rw [← HJ.out] at h3
                  exact h3))
                have hf : ((rdR L j).f0 != rd F i) = true := by simp [hkd]
                clear hkd
                obtain ⟨z0, z1, z2, z3, z4, f0, f1, f2, f3, f4⟩ := resFr (o' := zeroO) HZ4.out
                go_upto_region 10 with fail
                go_quiet (fail)
                go_wp2_with (go_at_call 24; refine (replevinref15_place.calls s (some ad) c L j (placeO s l j) _ (tokR_later HRx.out (pw_below_drewN HB4.out _)) hlc hpj.out).mono ?_; rintro e wz ⟨rfl, ⟨n9, rfl⟩⟩)
                refine res_exitr (res5r (wr := w4.drewN _) (o' := zeroO) HZ4.out zeroO) ?_ ?_ ?_ hRR.out (below5 (g := w.heap.size) (pw_below_drewN HBW4.out _) (Nat.le_refl _) zeroO) <;> rfl
            · have hRR : Hid (readR s = (zeroO, placeO s l j, 2)) := hfa.out (fun hc => hin (by have h1 := hc.1; have h2 := HJ.out; have h3 := hlen.out; omega))
              have hinZ : ¬ (j : Int) < (L.length : Int) := fun h => hin (Int.ofNat_lt.1 h)
              have hdg : decide (L.length ≤ j) = true := decide_eq_true (Nat.not_lt.1 hin)
              obtain ⟨z0, z1, z2, z3, z4, f0, f1, f2, f3, f4⟩ := resFr (o' := zeroO) HZ4.out
              go_upto_region 10 with fail
              go_quiet (fail)
              go_wp2_with (go_at_call 24; refine (replevinref15_place.calls s (some ad) c L j (placeO s l j) _ (tokR_later HRx.out (pw_below_drewN HB4.out _)) hlc hpj.out).mono ?_; rintro e wz ⟨rfl, ⟨n9, rfl⟩⟩)
              refine res_exitr (res5r (wr := w4.drewN _) (o' := zeroO) HZ4.out zeroO) ?_ ?_ ?_ hRR.out (below5 (g := w.heap.size) (pw_below_drewN HBW4.out _) (Nat.le_refl _) zeroO) <;> rfl
          · have hall : Hid (∀ j, j < F.length → chk l F j) := fun j hj => HCH.out j (by have := HI.out; omega)
            have hltZ : ¬ (i : Int) < (F.length : Int) := by omega
            obtain ⟨m, hm⟩ : ∃ m : Nat, m = F.length + 1 := ⟨_, rfl⟩
            have hw : wrap64 ((F.length : Int) + 1) = (m : Int) := wrap_next F.length m (by have := hFl.out; omega) hm
            have hw2 : IntKind.i64.wrap ((F.length : Int) + 1) = (m : Int) := (i64_w _).trans hw
            have hps := Lib.hid (hpass.out hall.out)
            rw [← hm] at hps
            have HM := Lib.hid hm
            clear hm
            by_cases hmore : m < L.length
            · have hRR : Hid (readR s = (zeroO, (rdR L m).f3, 2)) := by
                show _ = _
                rw [hps.out, if_pos (by have := hlen.out; omega)]
                have h2 := hrd.out m
                unfold placeO
                rw [if_pos (by have := hlen.out; omega), h2]
                rfl
              obtain ⟨ad2, ha, c0, c1, c2, c3⟩ := at_tokR (tokR_later HRx.out HB4.out) m hmore
              cases ha
              have hmZ : (m : Int) < (L.length : Int) := Int.ofNat_lt.2 hmore
              have h0m : (0 : Int) ≤ m := Int.natCast_nonneg m
              have hblk : ¬ (ad.add (m * 4)).block = w.heap.size := by unfold Addr.add; split <;> exact hadb.out
              have hblk2 : ¬ w.heap.size = (ad.add (m * 4)).block := fun h => hblk h.symm
              obtain ⟨z0, z1, z2, z3, z4, f0, f1, f2, f3, f4⟩ := resFr (o' := zeroO) HZ4.out
              go_upto_region 13 with fail
              go_region
              all_goals
                (go_wp2
                 refine res_exitr (res5r (wr := w4.drewN _) (o' := zeroO) HZ4.out zeroO) ?_ ?_ ?_ hRR.out (below5 (g := w.heap.size) (pw_below_drewN HBW4.out _) (Nat.le_refl _) zeroO) <;> rfl)
            · have hmZ : ¬ (m : Int) < (L.length : Int) := fun h => hmore (Int.ofNat_lt.1 h)
              have hps2 : Hid (readR s = if mayO (readPo l (partsK k0).data.toList 1 (o1 k0)) then (readPo l (partsK k0).data.toList 1 (o1 k0), 0, 0) else (zeroO, placeO s l 1, 3)) := by
                show _ = _
                rw [hps.out, if_neg (by have := hlen.out; omega)]
              go_upto_region 14 with fail
              clear hw hw2 hfail hpass hfm hltZ
              have HB5 := Lib.hid (pw_below_drewN HB4.out n)
              go_upto_region 16 with fail
              obtain ⟨w6, hw6⟩ : ∃ w6, w6 = ((w4.drewN n).alloc (.cells #[.string ⟨#[]⟩, .string ⟨#[111, 112, 101, 110]⟩, .string ⟨#[100, 111]⟩, .string ⟨#[116, 105, 99, 107]⟩, .string ⟨#[99, 108, 111, 115, 101]⟩, .string ⟨#[97, 119, 97, 121]⟩, .string ⟨#[104, 101, 114, 101]⟩, .string ⟨#[97, 115, 107]⟩, .string ⟨#[103, 105, 118, 101]⟩, .string ⟨#[111, 110]⟩] 9)).alloc (.cells #[Value.int IntKind.i64 0, Value.string ⟨#[]⟩, Value.string ⟨#[]⟩, Value.string ⟨#[]⟩, Value.int IntKind.i64 0] 29) := ⟨_, rfl⟩
              rw [← hw6]
              have hWd : Aside0 (w6.heap[w4.heap.size]? = some (.cells #[.string ⟨#[]⟩, .string ⟨#[111, 112, 101, 110]⟩, .string ⟨#[100, 111]⟩, .string ⟨#[116, 105, 99, 107]⟩, .string ⟨#[99, 108, 111, 115, 101]⟩, .string ⟨#[97, 119, 97, 121]⟩, .string ⟨#[104, 101, 114, 101]⟩, .string ⟨#[97, 115, 107]⟩, .string ⟨#[103, 105, 118, 101]⟩, .string ⟨#[111, 110]⟩] 9 (0, 0))) := ⟨by rw [hw6]; exact blk_alloc (blk_new (w4.drewN n) _) _⟩
              have hO6 : Aside0 (w6.heap[w4.heap.size + 1]? = some (.cells #[Value.int IntKind.i64 0, Value.string ⟨#[]⟩, Value.string ⟨#[]⟩, Value.string ⟨#[]⟩, Value.int IntKind.i64 0] 29 (0, 0))) := ⟨by rw [hw6]; have h := blk_new ((w4.drewN n).alloc (.cells #[.string ⟨#[]⟩, .string ⟨#[111, 112, 101, 110]⟩, .string ⟨#[100, 111]⟩, .string ⟨#[116, 105, 99, 107]⟩, .string ⟨#[99, 108, 111, 115, 101]⟩, .string ⟨#[97, 119, 97, 121]⟩, .string ⟨#[104, 101, 114, 101]⟩, .string ⟨#[97, 115, 107]⟩, .string ⟨#[103, 105, 118, 101]⟩, .string ⟨#[111, 110]⟩] 9)) (.cells #[Value.int IntKind.i64 0, Value.string ⟨#[]⟩, Value.string ⟨#[]⟩, Value.string ⟨#[]⟩, Value.int IntKind.i64 0] 29); rw [alloc_size] at h; exact h⟩
              have HB6 : Aside0 (Below w1.heap.size w1 w6) := ⟨by rw [hw6]; exact below_alloc (below_alloc HB5.out _) _⟩
              have hle4 := HB4.out.size
              clear hw6 HB5
              generalize w4.heap.size = bw at *
              go_wp2
              have hk1 := HKK.out.1
              have hk9 := HKK.out.2.1
              have HK1 := Lib.hid hk1
              have HK9 := Lib.hid hk9
              clear hk1 hk9
              go_loopw [12] (fun v wr => ∃ q : Nat, v = .int .i64 (q : Int) ∧ Aside0 (1 ≤ q ∧ q ≤ 10) ∧ Aside0 (wr.heap[bw]? = some (.cells #[.string ⟨#[]⟩, .string ⟨#[111, 112, 101, 110]⟩, .string ⟨#[100, 111]⟩, .string ⟨#[116, 105, 99, 107]⟩, .string ⟨#[99, 108, 111, 115, 101]⟩, .string ⟨#[97, 119, 97, 121]⟩, .string ⟨#[104, 101, 114, 101]⟩, .string ⟨#[97, 115, 107]⟩, .string ⟨#[103, 105, 118, 101]⟩, .string ⟨#[111, 110]⟩] 9 (0, 0))) ∧ Aside0 (wr.heap[bw + 1]? = some (.cells #[Value.int IntKind.i64 (if k0 < (q : Int) then k0 else 0), Value.string ⟨#[]⟩, Value.string ⟨#[]⟩, Value.string ⟨#[]⟩, Value.int IntKind.i64 0] 29 (0, 0))) ∧ Aside0 (Below w1.heap.size w1 wr)) (fun v _ => 10 - (intOf v).toNat)
              case atStart => exact ⟨1, rfl, ⟨by omega, by omega⟩, hWd, ⟨by rw [if_neg (show ¬ k0 < ((1 : Nat) : Int) by have := HK1.out; omega)]; exact hO6.out⟩, HB6⟩
              case round =>
                obtain ⟨q, rfl, HQ, HW, HO, HB⟩ := hrel
                by_cases hq : q < 10
                · have hqZ : (q : Int) < 10 := by omega
                  have h0q : (0 : Int) ≤ (q : Int) := Int.natCast_nonneg q
                  have hcw : wr.cell? ⟨bw, q, none⟩ = some (.string (wordB q)) := by
                    have h := blk_cell HW.out q
                    rw [h]
                    have h1 := HQ.out.1
                    clear h HW HO HB HQ
                    obtain rfl | rfl | rfl | rfl | rfl | rfl | rfl | rfl | rfl : q = 1 ∨ q = 2 ∨ q = 3 ∨ q = 4 ∨ q = 5 ∨ q = 6 ∨ q = 7 ∨ q = 8 ∨ q = 9 := by omega
                    all_goals rfl
                  obtain ⟨ad3, ha3, c0, c1, c2, c3⟩ := at_tokR0 (tokR_later HRx.out HB.out) h0
                  cases ha3
                  rw [← HTW.out] at c1
                  by_cases hqk : (q : Int) = k0
                  · have he : ((wordB (q : Int)).toList == tw.toList) = true := by rw [hqk, HKK.out.2.2]; simp
                    have HQK := Lib.hid hqk
                    clear hqk
                    generalize hwq : wordB (q : Int) = wq at *
                    clear hwq
                    have o0 : wr.cell? ⟨bw + 1, 0, none⟩ = some (.int .i64 (if k0 < (q : Int) then k0 else 0)) := blk_cell HO.out 0
                    have g0 := blk_frozen HO.out 0
                    go_upto_region 19 with fail
                    go_quiet (fail)
                    go_wp2
                    refine ⟨⟨q + 1, by go_num, ⟨by omega, by omega⟩, ⟨blk_far (w := wr.drewN _) HW.out (p := ⟨bw + 1, 0, none⟩) (by simp) _⟩, ⟨?_⟩, ⟨(pw_below_drewN HB.out _).setCell (p := ⟨bw + 1, 0, none⟩) (by simp; omega) _⟩⟩, ?_⟩
                    · rw [if_pos (show k0 < ((q + 1 : Nat) : Int) by have := HQK.out; omega), ← HQK.out]
                      exact blk_set (w := wr.drewN _) HO.out 0 (.int .i64 (q : Int))
                    · simp [intOf]; omega
                  · have he : ((wordB (q : Int)).toList == tw.toList) = false := by
                      simp only [beq_eq_false_iff_ne, ne_eq]
                      intro hh
                      rw [Lib.toList_data, Lib.toList_data] at hh
                      have h2 : wordB (q : Int) = tw := ByteArray.ext (Array.toList_inj.1 hh)
                      have h3 := kindB_word (q : Int) (by have := HQ.out.1; omega) (by omega)
                      have h4 := kindB_word k0 HK1.out HK9.out
                      rw [HKK.out.2.2] at h4
                      rw [h2, h4] at h3
                      exact hqk h3.symm
                    have HQK := Lib.hid hqk
                    clear hqk
                    generalize hwq : wordB (q : Int) = wq at *
                    clear hwq
                    go_upto_region 19 with fail
                    go_quiet (fail)
                    go_wp2
                    refine ⟨⟨q + 1, by go_num, ⟨by omega, by omega⟩, ⟨HW.out⟩, ⟨?_⟩, ⟨pw_below_drewN HB.out _⟩⟩, ?_⟩
                    · have h := HO.out
                      have e : (if k0 < ((q + 1 : Nat) : Int) then k0 else 0) = (if k0 < (q : Int) then k0 else 0) := by
                        have h1 := HQK.out
                        by_cases h2 : k0 < (q : Int)
                        · rw [if_pos h2, if_pos (by omega)]
                        · rw [if_neg h2, if_neg (by omega)]
                      rw [e]
                      exact h
                    · simp [intOf]; omega
                · have hqZ : ¬ (q : Int) < 10 := by omega
                  have HO10 : Aside0 (wr.heap[bw + 1]? = some (.cells #[Value.int IntKind.i64 k0, Value.string ⟨#[]⟩, Value.string ⟨#[]⟩, Value.string ⟨#[]⟩, Value.int IntKind.i64 0] 29 (0, 0))) := ⟨by have h := HO.out; rw [if_pos (show k0 < (q : Int) by have := HK9.out; omega)] at h; exact h⟩
                  clear HO HW HQ
                  go_upto_region 21 with fail
                  have HZr := Lib.hid ((HB.out.block w.heap.size hgx).trans hZx.out)
                  have HBWr := Lib.hid (HBW.out.trans (HB.out.mono HBW.out.size))
                  obtain ⟨z0, z1, z2, z3, z4, f0, f1, f2, f3, f4⟩ := resFr (o' := zeroO) HZr.out
                  have hL1 := hlen.out
                  by_cases e1 : k0 = 1
                  · subst e1
                    have oo : wr.heap[bw + 1]? = some (.cells #[Value.int IntKind.i64 (o1 1).k, Value.string (o1 1).c, Value.string (o1 1).e, Value.string (o1 1).u, Value.int IntKind.i64 (o1 1).n] 29 (0, 0)) := HO10.out
                    have OO := Lib.hid oo
                    have hc1 : chk l (formL 1) 0 := by have h := hall.out 0 (by rw [HFd.out]; decide); rw [HFd.out] at h; exact h
                    have hi1 : 1 < L.length := by have := hc1.1; omega
                    have hr1 : rdR L 1 = cvt (rdT l 1) := hrd.out 1
                    obtain ⟨ad1, ha1, c10, c11, c12, c13⟩ := at_tokR (tokR_later HRx.out HB.out) 1 hi1
                    cases ha1
                    obtain ⟨y0, y1, y2, y3, y4, p0, p1, p2, p3, p4⟩ := resFr OO.out
                    clear oo
                    have hne1 : ¬ w.heap.size = bw + 1 := by omega
                    have hne2 : ¬ bw + 1 = w.heap.size := by omega
                    have hz1 : (1 : Int) < (L.length : Int) := by omega
                    have d10 : wr.cell? ⟨ad.block, ad.off + 4 + 1, none⟩ = some (.string (rdR L 1).f1) := by have h := c11; simpa [Addr.add] using h
                    have d12 : wr.cell? ⟨ad.block, ad.off + 4 + 2, none⟩ = some (.int .i64 (rdR L 1).f2) := by have h := c12; simpa [Addr.add] using h
                    have d13 : wr.cell? ⟨ad.block, ad.off + 4 + 3, none⟩ = some (.int .i64 (rdR L 1).f3) := by have h := c13; simpa [Addr.add] using h
                    clear c10 c11 c12 c13
                    have hb1 : ¬ ad.block = bw + 1 := by have h1 := hadl.out; omega
                    have hb2 : ¬ bw + 1 = ad.block := fun h => hb1 h.symm
                    have hb3 : ¬ ad.block = w.heap.size := hadb.out
                    have hb4 : ¬ w.heap.size = ad.block := fun h => hb3 h.symm
                    have nm1 : nameR (rdT l 1).f1 = true := (hnm.out 1 (by omega)).1 hc1.2
                    have hmk : mayO ⟨1, (rdT l 1).f1, ⟨#[]⟩, ⟨#[]⟩, 0⟩ = true := by rw [may_c (.inl rfl)]; simp [b5O, b6O, b7O, bareO, emp, nil_toList, nm1]
                    have hRR : Hid (readR s = (⟨1, (rdR L 1).f1, ⟨#[]⟩, ⟨#[]⟩, 0⟩, 0, 0)) := by
                      show _ = _
                      rw [hps2.out]
                      show (if mayO ⟨1, (rdT l 1).f1, ⟨#[]⟩, ⟨#[]⟩, 0⟩ then ((⟨1, (rdT l 1).f1, ⟨#[]⟩, ⟨#[]⟩, 0⟩ : Ord), (0 : Int), (0 : Int)) else _) = _
                      rw [if_pos hmk, hr1]
                      try rfl
                    clear hmk
                    clear hc1 hi1 hr1 nm1
                    go_wp2
                    refine res_exitr (res5r (o' := zeroO) (blk_far HZr.out (p := ⟨bw + 1, 1, none⟩) (by simp; omega) _) ⟨1, (rdR L 1).f1, ⟨#[]⟩, ⟨#[]⟩, 0⟩) ?_ ?_ ?_ hRR.out (below5 (g := w.heap.size) (HBWr.out.setCell (p := ⟨bw + 1, 1, none⟩) (by simp; omega) _) (Nat.le_refl _) _) <;> rfl
                  by_cases e2 : k0 = 2
                  · subst e2
                    have oo : wr.heap[bw + 1]? = some (.cells #[Value.int IntKind.i64 (o1 2).k, Value.string (o1 2).c, Value.string (o1 2).e, Value.string (o1 2).u, Value.int IntKind.i64 (o1 2).n] 29 (0, 0)) := HO10.out
                    have OO := Lib.hid oo
                    have hc1 : chk l (formL 2) 0 := by have h := hall.out 0 (by rw [HFd.out]; decide); rw [HFd.out] at h; exact h
                    have hi1 : 1 < L.length := by have := hc1.1; omega
                    have hr1 : rdR L 1 = cvt (rdT l 1) := hrd.out 1
                    obtain ⟨ad1, ha1, c10, c11, c12, c13⟩ := at_tokR (tokR_later HRx.out HB.out) 1 hi1
                    cases ha1
                    have hc2 : chk l (formL 2) 1 := by have h := hall.out 1 (by rw [HFd.out]; decide); rw [HFd.out] at h; exact h
                    have hi2 : 2 < L.length := by have := hc2.1; omega
                    have hr2 : rdR L 2 = cvt (rdT l 2) := hrd.out 2
                    obtain ⟨ad2, ha2, c20, c21, c22, c23⟩ := at_tokR (tokR_later HRx.out HB.out) 2 hi2
                    cases ha2
                    have hc3 : chk l (formL 2) 2 := by have h := hall.out 2 (by rw [HFd.out]; decide); rw [HFd.out] at h; exact h
                    have hi3 : 3 < L.length := by have := hc3.1; omega
                    have hr3 : rdR L 3 = cvt (rdT l 3) := hrd.out 3
                    obtain ⟨ad3, ha3, c30, c31, c32, c33⟩ := at_tokR (tokR_later HRx.out HB.out) 3 hi3
                    cases ha3
                    obtain ⟨y0, y1, y2, y3, y4, p0, p1, p2, p3, p4⟩ := resFr OO.out
                    clear oo
                    have hne1 : ¬ w.heap.size = bw + 1 := by omega
                    have hne2 : ¬ bw + 1 = w.heap.size := by omega
                    have hz1 : (1 : Int) < (L.length : Int) := by omega
                    have d10 : wr.cell? ⟨ad.block, ad.off + 4 + 1, none⟩ = some (.string (rdR L 1).f1) := by have h := c11; simpa [Addr.add] using h
                    have d12 : wr.cell? ⟨ad.block, ad.off + 4 + 2, none⟩ = some (.int .i64 (rdR L 1).f2) := by have h := c12; simpa [Addr.add] using h
                    have d13 : wr.cell? ⟨ad.block, ad.off + 4 + 3, none⟩ = some (.int .i64 (rdR L 1).f3) := by have h := c13; simpa [Addr.add] using h
                    clear c10 c11 c12 c13
                    have hz2 : (2 : Int) < (L.length : Int) := by omega
                    have d20 : wr.cell? ⟨ad.block, ad.off + 8 + 1, none⟩ = some (.string (rdR L 2).f1) := by have h := c21; simpa [Addr.add] using h
                    have d22 : wr.cell? ⟨ad.block, ad.off + 8 + 2, none⟩ = some (.int .i64 (rdR L 2).f2) := by have h := c22; simpa [Addr.add] using h
                    have d23 : wr.cell? ⟨ad.block, ad.off + 8 + 3, none⟩ = some (.int .i64 (rdR L 2).f3) := by have h := c23; simpa [Addr.add] using h
                    clear c20 c21 c22 c23
                    have hz3 : (3 : Int) < (L.length : Int) := by omega
                    have d30 : wr.cell? ⟨ad.block, ad.off + 12 + 1, none⟩ = some (.string (rdR L 3).f1) := by have h := c31; simpa [Addr.add] using h
                    have d32 : wr.cell? ⟨ad.block, ad.off + 12 + 2, none⟩ = some (.int .i64 (rdR L 3).f2) := by have h := c32; simpa [Addr.add] using h
                    have d33 : wr.cell? ⟨ad.block, ad.off + 12 + 3, none⟩ = some (.int .i64 (rdR L 3).f3) := by have h := c33; simpa [Addr.add] using h
                    clear c30 c31 c32 c33
                    have hb1 : ¬ ad.block = bw + 1 := by have h1 := hadl.out; omega
                    have hb2 : ¬ bw + 1 = ad.block := fun h => hb1 h.symm
                    have hb3 : ¬ ad.block = w.heap.size := hadb.out
                    have hb4 : ¬ w.heap.size = ad.block := fun h => hb3 h.symm
                    have nm1 : nameR (rdT l 1).f1 = true := (hnm.out 1 (by omega)).1 hc1.2
                    have nm2 : nameR (rdT l 2).f1 = true := (hnm.out 2 (by omega)).1 hc2.2
                    have nm3 : nameR (rdT l 3).f1 = true := (hnm.out 3 (by omega)).1 hc3.2
                    have hmk : mayO ⟨2, (rdT l 1).f1, (rdT l 2).f1, (rdT l 3).f1, 0⟩ = true := by rw [may_2]; simp [b5O, b6O, b7O, bareO, emp, nil_toList, nm1, nm2, nm3]
                    have hRR : Hid (readR s = (⟨2, (rdR L 1).f1, (rdR L 2).f1, (rdR L 3).f1, 0⟩, 0, 0)) := by
                      show _ = _
                      rw [hps2.out]
                      show (if mayO ⟨2, (rdT l 1).f1, (rdT l 2).f1, (rdT l 3).f1, 0⟩ then ((⟨2, (rdT l 1).f1, (rdT l 2).f1, (rdT l 3).f1, 0⟩ : Ord), (0 : Int), (0 : Int)) else _) = _
                      rw [if_pos hmk, hr1, hr2, hr3]
                      try rfl
                    clear hmk
                    clear hc1 hi1 hr1 hc2 hi2 hr2 hc3 hi3 hr3 nm1 nm2 nm3
                    go_wp2
                    refine res_exitr (res5r (o' := zeroO) (blk_far (blk_far (blk_far HZr.out (p := ⟨bw + 1, 1, none⟩) (by simp; omega) _) (p := ⟨bw + 1, 2, none⟩) (by simp; omega) _) (p := ⟨bw + 1, 3, none⟩) (by simp; omega) _) ⟨2, (rdR L 1).f1, (rdR L 2).f1, (rdR L 3).f1, 0⟩) ?_ ?_ ?_ hRR.out (below5 (g := w.heap.size) (((HBWr.out.setCell (p := ⟨bw + 1, 1, none⟩) (by simp; omega) _).setCell (p := ⟨bw + 1, 2, none⟩) (by simp; omega) _).setCell (p := ⟨bw + 1, 3, none⟩) (by simp; omega) _) (Nat.le_refl _) _) <;> rfl
                  by_cases e3 : k0 = 3
                  · subst e3
                    have oo : wr.heap[bw + 1]? = some (.cells #[Value.int IntKind.i64 (o1 3).k, Value.string (o1 3).c, Value.string (o1 3).e, Value.string (o1 3).u, Value.int IntKind.i64 (o1 3).n] 29 (0, 0)) := HO10.out
                    have OO := Lib.hid oo
                    have hc1 : chk l (formL 3) 0 := by have h := hall.out 0 (by rw [HFd.out]; decide); rw [HFd.out] at h; exact h
                    have hi1 : 1 < L.length := by have := hc1.1; omega
                    have hr1 : rdR L 1 = cvt (rdT l 1) := hrd.out 1
                    obtain ⟨ad1, ha1, c10, c11, c12, c13⟩ := at_tokR (tokR_later HRx.out HB.out) 1 hi1
                    cases ha1
                    obtain ⟨y0, y1, y2, y3, y4, p0, p1, p2, p3, p4⟩ := resFr OO.out
                    clear oo
                    have hne1 : ¬ w.heap.size = bw + 1 := by omega
                    have hne2 : ¬ bw + 1 = w.heap.size := by omega
                    have hz1 : (1 : Int) < (L.length : Int) := by omega
                    have d10 : wr.cell? ⟨ad.block, ad.off + 4 + 1, none⟩ = some (.string (rdR L 1).f1) := by have h := c11; simpa [Addr.add] using h
                    have d12 : wr.cell? ⟨ad.block, ad.off + 4 + 2, none⟩ = some (.int .i64 (rdR L 1).f2) := by have h := c12; simpa [Addr.add] using h
                    have d13 : wr.cell? ⟨ad.block, ad.off + 4 + 3, none⟩ = some (.int .i64 (rdR L 1).f3) := by have h := c13; simpa [Addr.add] using h
                    clear c10 c11 c12 c13
                    have hb1 : ¬ ad.block = bw + 1 := by have h1 := hadl.out; omega
                    have hb2 : ¬ bw + 1 = ad.block := fun h => hb1 h.symm
                    have hb3 : ¬ ad.block = w.heap.size := hadb.out
                    have hb4 : ¬ w.heap.size = ad.block := fun h => hb3 h.symm
                    have hcl : ∀ x : Int, mayO ⟨3, ⟨#[]⟩, ⟨#[]⟩, ⟨#[]⟩, x⟩ = (decide (1 ≤ x) && decide (x ≤ 1000)) := fun x => by rw [may_3]; simp [emp, nil_toList]
                    have hpl : placeO s l 1 = (rdR L 1).f3 := by unfold placeO; rw [if_pos (by omega), hr1]; rfl
                    have hv : (rdT l 1).f2 = (rdR L 1).f2 := by rw [hr1]; rfl
                    have hRR : Hid (readR s = if (decide (1 ≤ (rdR L 1).f2) && decide ((rdR L 1).f2 ≤ 1000)) = true then ((⟨3, ⟨#[]⟩, ⟨#[]⟩, ⟨#[]⟩, (rdR L 1).f2⟩ : Ord), (0 : Int), (0 : Int)) else (zeroO, (rdR L 1).f3, 3)) := by
                      show _ = _
                      rw [hps2.out]
                      show (if mayO ⟨3, ⟨#[]⟩, ⟨#[]⟩, ⟨#[]⟩, (rdT l 1).f2⟩ = true then ((⟨3, ⟨#[]⟩, ⟨#[]⟩, ⟨#[]⟩, (rdT l 1).f2⟩ : Ord), (0 : Int), (0 : Int)) else _) = _
                      rw [hcl, hv, hpl]
                    clear hcl hpl hv hc1 hi1 hr1
                    generalize hvv : (rdR L 1).f2 = vv at *
                    clear hvv
                    by_cases v1 : vv < 1
                    · rw [decide_eq_false (show ¬ 1 ≤ vv by omega)] at hRR
                      go_upto_region 33 with fail
                      obtain ⟨wq, hwq⟩ : ∃ wq, wq = wr.setCell ⟨bw + 1, 4, none⟩ (.int .i64 vv) := ⟨_, rfl⟩
                      rw [← hwq]
                      have HZq : Hid (wq.heap[w.heap.size]? = some (.cells #[Value.int IntKind.i64 zeroO.k, Value.string zeroO.c, Value.string zeroO.e, Value.string zeroO.u, Value.int IntKind.i64 zeroO.n] 29 (0, 0))) := by show _ = _; rw [hwq]; exact blk_far HZr.out (p := ⟨bw + 1, 4, none⟩) (by simp; omega) _
                      have HBq : Hid (Below w.heap.size w wq) := by show Below _ _ _; rw [hwq]; exact HBWr.out.setCell (p := ⟨bw + 1, 4, none⟩) (by simp; omega) _
                      have dq : wq.cell? ⟨ad.block, ad.off + 4 + 3, none⟩ = some (.int .i64 (rdR L 1).f3) := by rw [hwq, World.cell?_setCell_far _ _ _ _ (by simp; omega)]; exact d13
                      clear hwq d10 d12 d13 y0 y1 y2 y3 y4 p0 p1 p2 p3 p4 z0 z1 z2 z3 z4 f0 f1 f2 f3 f4
                      obtain ⟨z0, z1, z2, z3, z4, f0, f1, f2, f3, f4⟩ := resFr (o' := zeroO) HZq.out
                      go_region
                      all_goals (go_wp2; have hX := res5r (wr := wq) (o' := zeroO) HZq.out zeroO; have hY := below5 (g := w.heap.size) HBq.out (Nat.le_refl _) zeroO; generalize hG : (((((wq.setCell ⟨w.heap.size, 0, none⟩ (.int .i64 zeroO.k)).setCell ⟨w.heap.size, 1, none⟩ (.string zeroO.c)).setCell ⟨w.heap.size, 2, none⟩ (.string zeroO.e)).setCell ⟨w.heap.size, 3, none⟩ (.string zeroO.u)).setCell ⟨w.heap.size, 4, none⟩ (.int .i64 zeroO.n)) = wf at hX hY; have hG2 : (((((wq.setCell ⟨w.heap.size, 0, none⟩ (.int .i64 0)).setCell ⟨w.heap.size, 1, none⟩ (.string ⟨#[]⟩)).setCell ⟨w.heap.size, 2, none⟩ (.string ⟨#[]⟩)).setCell ⟨w.heap.size, 3, none⟩ (.string ⟨#[]⟩)).setCell ⟨w.heap.size, 4, none⟩ (.int .i64 0)) = wf := hG; rw [hG2]; refine res_exitr (wr := wf.drew) (o' := zeroO) hX ?_ ?_ ?_ hRR.out hY.drew <;> rfl)
                    · by_cases v2 : 1000 < vv
                      · rw [decide_eq_false (show ¬ vv ≤ 1000 by omega), Bool.and_false] at hRR
                        go_upto_region 33 with fail
                        obtain ⟨wq, hwq⟩ : ∃ wq, wq = wr.setCell ⟨bw + 1, 4, none⟩ (.int .i64 vv) := ⟨_, rfl⟩
                        rw [← hwq]
                        have HZq : Hid (wq.heap[w.heap.size]? = some (.cells #[Value.int IntKind.i64 zeroO.k, Value.string zeroO.c, Value.string zeroO.e, Value.string zeroO.u, Value.int IntKind.i64 zeroO.n] 29 (0, 0))) := by show _ = _; rw [hwq]; exact blk_far HZr.out (p := ⟨bw + 1, 4, none⟩) (by simp; omega) _
                        have HBq : Hid (Below w.heap.size w wq) := by show Below _ _ _; rw [hwq]; exact HBWr.out.setCell (p := ⟨bw + 1, 4, none⟩) (by simp; omega) _
                        have dq : wq.cell? ⟨ad.block, ad.off + 4 + 3, none⟩ = some (.int .i64 (rdR L 1).f3) := by rw [hwq, World.cell?_setCell_far _ _ _ _ (by simp; omega)]; exact d13
                        clear hwq d10 d12 d13 y0 y1 y2 y3 y4 p0 p1 p2 p3 p4 z0 z1 z2 z3 z4 f0 f1 f2 f3 f4
                        obtain ⟨z0, z1, z2, z3, z4, f0, f1, f2, f3, f4⟩ := resFr (o' := zeroO) HZq.out
                        go_region
                        all_goals (go_wp2; have hX := res5r (wr := wq) (o' := zeroO) HZq.out zeroO; have hY := below5 (g := w.heap.size) HBq.out (Nat.le_refl _) zeroO; generalize hG : (((((wq.setCell ⟨w.heap.size, 0, none⟩ (.int .i64 zeroO.k)).setCell ⟨w.heap.size, 1, none⟩ (.string zeroO.c)).setCell ⟨w.heap.size, 2, none⟩ (.string zeroO.e)).setCell ⟨w.heap.size, 3, none⟩ (.string zeroO.u)).setCell ⟨w.heap.size, 4, none⟩ (.int .i64 zeroO.n)) = wf at hX hY; have hG2 : (((((wq.setCell ⟨w.heap.size, 0, none⟩ (.int .i64 0)).setCell ⟨w.heap.size, 1, none⟩ (.string ⟨#[]⟩)).setCell ⟨w.heap.size, 2, none⟩ (.string ⟨#[]⟩)).setCell ⟨w.heap.size, 3, none⟩ (.string ⟨#[]⟩)).setCell ⟨w.heap.size, 4, none⟩ (.int .i64 0)) = wf := hG; rw [hG2]; refine res_exitr (wr := wf.drew) (o' := zeroO) hX ?_ ?_ ?_ hRR.out hY.drew <;> rfl)
                      · rw [decide_eq_true (show 1 ≤ vv by omega), decide_eq_true (show vv ≤ 1000 by omega)] at hRR
                        go_wp2
                        refine res_exitr (res5r (o' := zeroO) (blk_far HZr.out (p := ⟨bw + 1, 4, none⟩) (by simp; omega) _) ⟨3, ⟨#[]⟩, ⟨#[]⟩, ⟨#[]⟩, vv⟩) ?_ ?_ ?_ hRR.out (below5 (g := w.heap.size) (HBWr.out.setCell (p := ⟨bw + 1, 4, none⟩) (by simp; omega) _) (Nat.le_refl _) _) <;> rfl
                  by_cases e4 : k0 = 4
                  · subst e4
                    have oo : wr.heap[bw + 1]? = some (.cells #[Value.int IntKind.i64 (o1 4).k, Value.string (o1 4).c, Value.string (o1 4).e, Value.string (o1 4).u, Value.int IntKind.i64 (o1 4).n] 29 (0, 0)) := HO10.out
                    have OO := Lib.hid oo
                    have hc1 : chk l (formL 4) 0 := by have h := hall.out 0 (by rw [HFd.out]; decide); rw [HFd.out] at h; exact h
                    have hi1 : 1 < L.length := by have := hc1.1; omega
                    have hr1 : rdR L 1 = cvt (rdT l 1) := hrd.out 1
                    obtain ⟨ad1, ha1, c10, c11, c12, c13⟩ := at_tokR (tokR_later HRx.out HB.out) 1 hi1
                    cases ha1
                    obtain ⟨y0, y1, y2, y3, y4, p0, p1, p2, p3, p4⟩ := resFr OO.out
                    clear oo
                    have hne1 : ¬ w.heap.size = bw + 1 := by omega
                    have hne2 : ¬ bw + 1 = w.heap.size := by omega
                    have hz1 : (1 : Int) < (L.length : Int) := by omega
                    have d10 : wr.cell? ⟨ad.block, ad.off + 4 + 1, none⟩ = some (.string (rdR L 1).f1) := by have h := c11; simpa [Addr.add] using h
                    have d12 : wr.cell? ⟨ad.block, ad.off + 4 + 2, none⟩ = some (.int .i64 (rdR L 1).f2) := by have h := c12; simpa [Addr.add] using h
                    have d13 : wr.cell? ⟨ad.block, ad.off + 4 + 3, none⟩ = some (.int .i64 (rdR L 1).f3) := by have h := c13; simpa [Addr.add] using h
                    clear c10 c11 c12 c13
                    have hb1 : ¬ ad.block = bw + 1 := by have h1 := hadl.out; omega
                    have hb2 : ¬ bw + 1 = ad.block := fun h => hb1 h.symm
                    have hb3 : ¬ ad.block = w.heap.size := hadb.out
                    have hb4 : ¬ w.heap.size = ad.block := fun h => hb3 h.symm
                    have nm1 : nameR (rdT l 1).f1 = true := (hnm.out 1 (by omega)).1 hc1.2
                    have hmk : mayO ⟨4, (rdT l 1).f1, ⟨#[]⟩, ⟨#[]⟩, 0⟩ = true := by rw [may_c (.inr (.inl rfl))]; simp [b5O, b6O, b7O, bareO, emp, nil_toList, nm1]
                    have hRR : Hid (readR s = (⟨4, (rdR L 1).f1, ⟨#[]⟩, ⟨#[]⟩, 0⟩, 0, 0)) := by
                      show _ = _
                      rw [hps2.out]
                      show (if mayO ⟨4, (rdT l 1).f1, ⟨#[]⟩, ⟨#[]⟩, 0⟩ then ((⟨4, (rdT l 1).f1, ⟨#[]⟩, ⟨#[]⟩, 0⟩ : Ord), (0 : Int), (0 : Int)) else _) = _
                      rw [if_pos hmk, hr1]
                      try rfl
                    clear hmk
                    clear hc1 hi1 hr1 nm1
                    go_wp2
                    refine res_exitr (res5r (o' := zeroO) (blk_far HZr.out (p := ⟨bw + 1, 1, none⟩) (by simp; omega) _) ⟨4, (rdR L 1).f1, ⟨#[]⟩, ⟨#[]⟩, 0⟩) ?_ ?_ ?_ hRR.out (below5 (g := w.heap.size) (HBWr.out.setCell (p := ⟨bw + 1, 1, none⟩) (by simp; omega) _) (Nat.le_refl _) _) <;> rfl
                  by_cases e5 : k0 = 5
                  · subst e5
                    have oo : wr.heap[bw + 1]? = some (.cells #[Value.int IntKind.i64 (o1 5).k, Value.string (o1 5).c, Value.string (o1 5).e, Value.string (o1 5).u, Value.int IntKind.i64 (o1 5).n] 29 (0, 0)) := HO10.out
                    have OO := Lib.hid oo
                    have hc1 : chk l (formL 5) 0 := by have h := hall.out 0 (by rw [HFd.out]; decide); rw [HFd.out] at h; exact h
                    have hi1 : 1 < L.length := by have := hc1.1; omega
                    have hr1 : rdR L 1 = cvt (rdT l 1) := hrd.out 1
                    obtain ⟨ad1, ha1, c10, c11, c12, c13⟩ := at_tokR (tokR_later HRx.out HB.out) 1 hi1
                    cases ha1
                    obtain ⟨y0, y1, y2, y3, y4, p0, p1, p2, p3, p4⟩ := resFr OO.out
                    clear oo
                    have hne1 : ¬ w.heap.size = bw + 1 := by omega
                    have hne2 : ¬ bw + 1 = w.heap.size := by omega
                    have hz1 : (1 : Int) < (L.length : Int) := by omega
                    have d10 : wr.cell? ⟨ad.block, ad.off + 4 + 1, none⟩ = some (.string (rdR L 1).f1) := by have h := c11; simpa [Addr.add] using h
                    have d12 : wr.cell? ⟨ad.block, ad.off + 4 + 2, none⟩ = some (.int .i64 (rdR L 1).f2) := by have h := c12; simpa [Addr.add] using h
                    have d13 : wr.cell? ⟨ad.block, ad.off + 4 + 3, none⟩ = some (.int .i64 (rdR L 1).f3) := by have h := c13; simpa [Addr.add] using h
                    clear c10 c11 c12 c13
                    have hb1 : ¬ ad.block = bw + 1 := by have h1 := hadl.out; omega
                    have hb2 : ¬ bw + 1 = ad.block := fun h => hb1 h.symm
                    have hb3 : ¬ ad.block = w.heap.size := hadb.out
                    have hb4 : ¬ w.heap.size = ad.block := fun h => hb3 h.symm
                    have nm1 : nameR (rdT l 1).f1 = true := (hnm.out 1 (by omega)).1 hc1.2
                    have hmk : mayO ⟨5, ⟨#[]⟩, ⟨#[]⟩, (rdT l 1).f1, 0⟩ = true := by rw [may_u (.inl rfl)]; simp [b5O, b6O, b7O, bareO, emp, nil_toList, nm1]
                    have hRR : Hid (readR s = (⟨5, ⟨#[]⟩, ⟨#[]⟩, (rdR L 1).f1, 0⟩, 0, 0)) := by
                      show _ = _
                      rw [hps2.out]
                      show (if mayO ⟨5, ⟨#[]⟩, ⟨#[]⟩, (rdT l 1).f1, 0⟩ then ((⟨5, ⟨#[]⟩, ⟨#[]⟩, (rdT l 1).f1, 0⟩ : Ord), (0 : Int), (0 : Int)) else _) = _
                      rw [if_pos hmk, hr1]
                      try rfl
                    clear hmk
                    clear hc1 hi1 hr1 nm1
                    go_wp2
                    refine res_exitr (res5r (o' := zeroO) (blk_far HZr.out (p := ⟨bw + 1, 3, none⟩) (by simp; omega) _) ⟨5, ⟨#[]⟩, ⟨#[]⟩, (rdR L 1).f1, 0⟩) ?_ ?_ ?_ hRR.out (below5 (g := w.heap.size) (HBWr.out.setCell (p := ⟨bw + 1, 3, none⟩) (by simp; omega) _) (Nat.le_refl _) _) <;> rfl
                  by_cases e6 : k0 = 6
                  · subst e6
                    have oo : wr.heap[bw + 1]? = some (.cells #[Value.int IntKind.i64 (o1 6).k, Value.string (o1 6).c, Value.string (o1 6).e, Value.string (o1 6).u, Value.int IntKind.i64 (o1 6).n] 29 (0, 0)) := HO10.out
                    have OO := Lib.hid oo
                    have hc1 : chk l (formL 6) 0 := by have h := hall.out 0 (by rw [HFd.out]; decide); rw [HFd.out] at h; exact h
                    have hi1 : 1 < L.length := by have := hc1.1; omega
                    have hr1 : rdR L 1 = cvt (rdT l 1) := hrd.out 1
                    obtain ⟨ad1, ha1, c10, c11, c12, c13⟩ := at_tokR (tokR_later HRx.out HB.out) 1 hi1
                    cases ha1
                    obtain ⟨y0, y1, y2, y3, y4, p0, p1, p2, p3, p4⟩ := resFr OO.out
                    clear oo
                    have hne1 : ¬ w.heap.size = bw + 1 := by omega
                    have hne2 : ¬ bw + 1 = w.heap.size := by omega
                    have hz1 : (1 : Int) < (L.length : Int) := by omega
                    have d10 : wr.cell? ⟨ad.block, ad.off + 4 + 1, none⟩ = some (.string (rdR L 1).f1) := by have h := c11; simpa [Addr.add] using h
                    have d12 : wr.cell? ⟨ad.block, ad.off + 4 + 2, none⟩ = some (.int .i64 (rdR L 1).f2) := by have h := c12; simpa [Addr.add] using h
                    have d13 : wr.cell? ⟨ad.block, ad.off + 4 + 3, none⟩ = some (.int .i64 (rdR L 1).f3) := by have h := c13; simpa [Addr.add] using h
                    clear c10 c11 c12 c13
                    have hb1 : ¬ ad.block = bw + 1 := by have h1 := hadl.out; omega
                    have hb2 : ¬ bw + 1 = ad.block := fun h => hb1 h.symm
                    have hb3 : ¬ ad.block = w.heap.size := hadb.out
                    have hb4 : ¬ w.heap.size = ad.block := fun h => hb3 h.symm
                    have nm1 : nameR (rdT l 1).f1 = true := (hnm.out 1 (by omega)).1 hc1.2
                    have hmk : mayO ⟨6, ⟨#[]⟩, ⟨#[]⟩, (rdT l 1).f1, 0⟩ = true := by rw [may_u (.inr rfl)]; simp [b5O, b6O, b7O, bareO, emp, nil_toList, nm1]
                    have hRR : Hid (readR s = (⟨6, ⟨#[]⟩, ⟨#[]⟩, (rdR L 1).f1, 0⟩, 0, 0)) := by
                      show _ = _
                      rw [hps2.out]
                      show (if mayO ⟨6, ⟨#[]⟩, ⟨#[]⟩, (rdT l 1).f1, 0⟩ then ((⟨6, ⟨#[]⟩, ⟨#[]⟩, (rdT l 1).f1, 0⟩ : Ord), (0 : Int), (0 : Int)) else _) = _
                      rw [if_pos hmk, hr1]
                      try rfl
                    clear hmk
                    clear hc1 hi1 hr1 nm1
                    go_wp2
                    refine res_exitr (res5r (o' := zeroO) (blk_far HZr.out (p := ⟨bw + 1, 3, none⟩) (by simp; omega) _) ⟨6, ⟨#[]⟩, ⟨#[]⟩, (rdR L 1).f1, 0⟩) ?_ ?_ ?_ hRR.out (below5 (g := w.heap.size) (HBWr.out.setCell (p := ⟨bw + 1, 3, none⟩) (by simp; omega) _) (Nat.le_refl _) _) <;> rfl
                  by_cases e7 : k0 = 7
                  · subst e7
                    have oo : wr.heap[bw + 1]? = some (.cells #[Value.int IntKind.i64 (o1 7).k, Value.string (o1 7).c, Value.string (o1 7).e, Value.string (o1 7).u, Value.int IntKind.i64 (o1 7).n] 29 (0, 0)) := HO10.out
                    have OO := Lib.hid oo
                    have hc1 : chk l (formL 7) 0 := by have h := hall.out 0 (by rw [HFd.out]; decide); rw [HFd.out] at h; exact h
                    have hi1 : 1 < L.length := by have := hc1.1; omega
                    have hr1 : rdR L 1 = cvt (rdT l 1) := hrd.out 1
                    obtain ⟨ad1, ha1, c10, c11, c12, c13⟩ := at_tokR (tokR_later HRx.out HB.out) 1 hi1
                    cases ha1
                    obtain ⟨y0, y1, y2, y3, y4, p0, p1, p2, p3, p4⟩ := resFr OO.out
                    clear oo
                    have hne1 : ¬ w.heap.size = bw + 1 := by omega
                    have hne2 : ¬ bw + 1 = w.heap.size := by omega
                    have hz1 : (1 : Int) < (L.length : Int) := by omega
                    have d10 : wr.cell? ⟨ad.block, ad.off + 4 + 1, none⟩ = some (.string (rdR L 1).f1) := by have h := c11; simpa [Addr.add] using h
                    have d12 : wr.cell? ⟨ad.block, ad.off + 4 + 2, none⟩ = some (.int .i64 (rdR L 1).f2) := by have h := c12; simpa [Addr.add] using h
                    have d13 : wr.cell? ⟨ad.block, ad.off + 4 + 3, none⟩ = some (.int .i64 (rdR L 1).f3) := by have h := c13; simpa [Addr.add] using h
                    clear c10 c11 c12 c13
                    have hb1 : ¬ ad.block = bw + 1 := by have h1 := hadl.out; omega
                    have hb2 : ¬ bw + 1 = ad.block := fun h => hb1 h.symm
                    have hb3 : ¬ ad.block = w.heap.size := hadb.out
                    have hb4 : ¬ w.heap.size = ad.block := fun h => hb3 h.symm
                    have nm1 : nameR (rdT l 1).f1 = true := (hnm.out 1 (by omega)).1 hc1.2
                    have hmk : mayO ⟨7, (rdT l 1).f1, ⟨#[]⟩, ⟨#[]⟩, 0⟩ = true := by rw [may_c (.inr (.inr rfl))]; simp [b5O, b6O, b7O, bareO, emp, nil_toList, nm1]
                    have hRR : Hid (readR s = (⟨7, (rdR L 1).f1, ⟨#[]⟩, ⟨#[]⟩, 0⟩, 0, 0)) := by
                      show _ = _
                      rw [hps2.out]
                      show (if mayO ⟨7, (rdT l 1).f1, ⟨#[]⟩, ⟨#[]⟩, 0⟩ then ((⟨7, (rdT l 1).f1, ⟨#[]⟩, ⟨#[]⟩, 0⟩ : Ord), (0 : Int), (0 : Int)) else _) = _
                      rw [if_pos hmk, hr1]
                      try rfl
                    clear hmk
                    clear hc1 hi1 hr1 nm1
                    go_wp2
                    refine res_exitr (res5r (o' := zeroO) (blk_far HZr.out (p := ⟨bw + 1, 1, none⟩) (by simp; omega) _) ⟨7, (rdR L 1).f1, ⟨#[]⟩, ⟨#[]⟩, 0⟩) ?_ ?_ ?_ hRR.out (below5 (g := w.heap.size) (HBWr.out.setCell (p := ⟨bw + 1, 1, none⟩) (by simp; omega) _) (Nat.le_refl _) _) <;> rfl
                  by_cases e8 : k0 = 8
                  · subst e8
                    have oo : wr.heap[bw + 1]? = some (.cells #[Value.int IntKind.i64 (o1 8).k, Value.string (o1 8).c, Value.string (o1 8).e, Value.string (o1 8).u, Value.int IntKind.i64 (o1 8).n] 29 (0, 0)) := HO10.out
                    have OO := Lib.hid oo
                    obtain ⟨y0, y1, y2, y3, y4, p0, p1, p2, p3, p4⟩ := resFr OO.out
                    clear oo
                    have hne1 : ¬ w.heap.size = bw + 1 := by omega
                    have hne2 : ¬ bw + 1 = w.heap.size := by omega
                    have hb1 : ¬ ad.block = bw + 1 := by have h1 := hadl.out; omega
                    have hb2 : ¬ bw + 1 = ad.block := fun h => hb1 h.symm
                    have hb3 : ¬ ad.block = w.heap.size := hadb.out
                    have hb4 : ¬ w.heap.size = ad.block := fun h => hb3 h.symm
                    have hmk : mayO ⟨8, ⟨#[]⟩, ⟨#[]⟩, ⟨#[]⟩, 0⟩ = true := by rw [may_z (.inl rfl)]; simp [b5O, b6O, b7O, bareO, emp, nil_toList]
                    have hRR : Hid (readR s = (⟨8, ⟨#[]⟩, ⟨#[]⟩, ⟨#[]⟩, 0⟩, 0, 0)) := by
                      show _ = _
                      rw [hps2.out]
                      show (if mayO ⟨8, ⟨#[]⟩, ⟨#[]⟩, ⟨#[]⟩, 0⟩ then ((⟨8, ⟨#[]⟩, ⟨#[]⟩, ⟨#[]⟩, 0⟩ : Ord), (0 : Int), (0 : Int)) else _) = _
                      rw [if_pos hmk]
                      try rfl
                    clear hmk
                    go_wp2
                    refine res_exitr (res5r (o' := zeroO) HZr.out ⟨8, ⟨#[]⟩, ⟨#[]⟩, ⟨#[]⟩, 0⟩) ?_ ?_ ?_ hRR.out (below5 (g := w.heap.size) HBWr.out (Nat.le_refl _) _) <;> rfl
                  by_cases e9 : k0 = 9
                  · subst e9
                    have oo : wr.heap[bw + 1]? = some (.cells #[Value.int IntKind.i64 (o1 9).k, Value.string (o1 9).c, Value.string (o1 9).e, Value.string (o1 9).u, Value.int IntKind.i64 (o1 9).n] 29 (0, 0)) := HO10.out
                    have OO := Lib.hid oo
                    obtain ⟨y0, y1, y2, y3, y4, p0, p1, p2, p3, p4⟩ := resFr OO.out
                    clear oo
                    have hne1 : ¬ w.heap.size = bw + 1 := by omega
                    have hne2 : ¬ bw + 1 = w.heap.size := by omega
                    have hb1 : ¬ ad.block = bw + 1 := by have h1 := hadl.out; omega
                    have hb2 : ¬ bw + 1 = ad.block := fun h => hb1 h.symm
                    have hb3 : ¬ ad.block = w.heap.size := hadb.out
                    have hb4 : ¬ w.heap.size = ad.block := fun h => hb3 h.symm
                    have hmk : mayO ⟨9, ⟨#[]⟩, ⟨#[]⟩, ⟨#[]⟩, 0⟩ = true := by rw [may_z (.inr rfl)]; simp [b5O, b6O, b7O, bareO, emp, nil_toList]
                    have hRR : Hid (readR s = (⟨9, ⟨#[]⟩, ⟨#[]⟩, ⟨#[]⟩, 0⟩, 0, 0)) := by
                      show _ = _
                      rw [hps2.out]
                      show (if mayO ⟨9, ⟨#[]⟩, ⟨#[]⟩, ⟨#[]⟩, 0⟩ then ((⟨9, ⟨#[]⟩, ⟨#[]⟩, ⟨#[]⟩, 0⟩ : Ord), (0 : Int), (0 : Int)) else _) = _
                      rw [if_pos hmk]
                      try rfl
                    clear hmk
                    go_wp2
                    refine res_exitr (res5r (o' := zeroO) HZr.out ⟨9, ⟨#[]⟩, ⟨#[]⟩, ⟨#[]⟩, 0⟩) ?_ ?_ ?_ hRR.out (below5 (g := w.heap.size) HBWr.out (Nat.le_refl _) _) <;> rfl
                  exfalso
                  have := HK1.out
                  have := HK9.out
                  omega
    · have he : L.length = 0 := by omega
      have hne : ((L.length : Int) == 0) = true := by rw [he]; rfl
      have hRR : Hid (readR s = (zeroO, placeO s l 0, 2)) := by show _ = _; rw [hR.out]; unfold readL; exact if_neg (fun h => h0 (by have := h.1; have := hlen.out; omega))
      clear he
      obtain ⟨z0, z1, z2, z3, z4, f0, f1, f2, f3, f4⟩ := resFr (o' := zeroO) hZx.out
      go_wp2_with (go_at_call 24; refine (replevinref15_place.calls s A c L 0 (placeO s l 0) _ (Kd.R_reads' HRx.out).2.2 hlc (hpf.out 0)).mono ?_; rintro e w4 ⟨rfl, ⟨n2, rfl⟩⟩)
      refine res_exitr (res5r (wr := w1.drewN n2) (o' := zeroO) hZx.out zeroO) ?_ ?_ ?_ hRR.out (below5 (g := w.heap.size) (pw_below_drewN HBW.out n2) (Nat.le_refl _) zeroO) <;> rfl
  · have hR : Hid (readR s = (zeroO, at_, er)) := by show _ = _; unfold readR; rw [HL.out]; simp [her]
    obtain ⟨z0, z1, z2, z3, z4, f0, f1, f2, f3, f4⟩ := resFr (o' := zeroO) hZx.out
    go_wp2
    refine res_exitr (res5r (o' := zeroO) hZx.out zeroO) ?_ ?_ ?_ hR.out (below5 (g := w.heap.size) HBW.out (Nat.le_refl _) zeroO) <;> rfl
end Go.Proofs.YtdphomiljkclbaaDoor
