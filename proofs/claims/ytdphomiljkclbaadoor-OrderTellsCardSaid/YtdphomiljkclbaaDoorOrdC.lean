/- Lemmas and contracts for the functions of one layer of the program, used by the law's proof. No conditions beyond those typed. -/
import Derived.Test.YtdphomiljkclbaaDoorOrdB
import Derived.Test.YtdphomiljkclbaaDoorJoin
import Derived.Lib.ItoaLen
namespace Go.Proofs.YtdphomiljkclbaaDoor
set_option linter.unusedVariables false
set_option linter.unusedSimpArgs false
open Go.RowKit Go.Proofs.YtdphomiljkclbaaDoorW.PrintWords Go.Proofs.YtdphomiljkclbaaDoorW.PrintLast Go.Proofs.YtdphomiljkclbaaDoorW.PrintMore Go.Proofs.YtdphomiljkclbaaDoor.P

def textP (o : Ord) (c : Nat) : ByteArray := if c = 99 then o.c else if c = 101 then o.e else if c = 117 then o.u else ⟨(Lib.itoa o.n).toArray⟩
def textsO (o : Ord) (l : List UInt8) : List ByteArray := l.map fun c => textP o c.toNat
def wordsO (o : Ord) : List ByteArray := wordB o.k :: textsO o (partsK o.k).data.toList
def joined (l : List ByteArray) : ByteArray := ⟨(Lib.join (l.map (·.data.toList)) [32]).toArray⟩
def writeR (o : Ord) : ByteArray × Int := if mayO o then (joined (wordsO o) ++ ⟨#[59]⟩, 0) else (⟨#[]⟩, 2)

theorem text_any (o : Ord) (c : Nat) (hcc : c = 99 ∨ c = 101 ∨ c = 117 ∨ c = 110) (h0 : -9223372036854775808 ≤ o.n) (h1 : o.n ≤ 9223372036854775807) (w : World) (ht : Tab w) :
    Calls Tryd.prog 15 #[ordV o, .int .i32 (c : Int)] w fun e w' => e = .returned (.string (textP o c)) ∧ Below w.heap.size w w' := by
  rcases hcc with rfl | rfl | rfl | rfl
  · exact text_c o w
  · exact text_e o w
  · exact text_u o w
  · exact text_n o h0 h1 w ht

theorem lit1 (W : World) (base : Nat) (x : ByteArray) (hb : base ≤ W.heap.size) (ok : Nat → Prop) (hok : ok W.heap.size) :
    Kd.R Kd.string 9 (W.alloc (.cells #[.string x] 9)) base ok (.slice (some ⟨W.heap.size, 0, none⟩) 1 1) [x] := by
  refine Kd.R_of_own (xs := [x]) (World.ownsRow_lit (base := base) (e := 9) (size := 1) W #[.string x] 1 hb (by decide) (by simp)) (fun k hk => ?_)
  have : W.heap.size = k := by simpa [Value.ownBlock] using hk
  subst this
  exact hok

theorem joined_size (xs : List ByteArray) (h1 : 1 ≤ xs.length) (hlen : ∀ x ∈ xs, x.size ≤ 100) : (joined xs).size ≤ 101 * xs.length := by
  show (Lib.join (xs.map (·.data.toList)) [32]).toArray.size ≤ _
  rw [List.size_toArray]
  match xs, h1, hlen with
  | x :: r, _, hlen =>
    rw [List.map_cons, Lib.join_length]
    have hs : ∀ l : List ByteArray, (∀ x ∈ l, x.size ≤ 100) → Lib.lens (l.map (·.data.toList)) ≤ 100 * l.length := by
      intro l
      induction l with
      | nil => intro _; simp [Lib.lens]
      | cons y l ih =>
        intro hy
        have h1 := hy y (by simp)
        have h2 := ih (fun z hz => hy z (by simp [hz]))
        have h3 : y.data.toList.length = y.size := by rw [Array.length_toList]; rfl
        simp only [Lib.lens, List.map_cons, List.sum_cons, List.length_cons] at h2 ⊢
        omega
    have := hs (x :: r) hlen
    simp only [List.map_cons, List.length_cons, List.length_map, List.length_nil] at this ⊢
    omega

theorem Join_R (g cap : Nat) (xs : List ByteArray) (w : World) (base : Nat) (ok : Nat → Prop) (HR : Kd.R Kd.string 9 w base ok (.slice (some ⟨g, 0, none⟩) xs.length cap) xs) (h1 : 1 ≤ xs.length) (hN : xs.length ≤ 10)
    (hlen : ∀ x ∈ xs, x.size ≤ 100) :
    Calls Tryd.prog 16 #[.slice (some ⟨g, 0, none⟩) xs.length cap, .string ⟨#[32]⟩] w fun e w' => e = .returned (.string (joined xs)) ∧ Below w.heap.size w w' := by
  have hcells : ∀ (j : Nat) x, xs[j]? = some x → w.cell? ⟨g, 0 + j, none⟩ = some (.string x) := by
    intro j x hj
    have hl := (List.getElem?_eq_some_iff.1 hj).1
    have h := (Kd.R_cell (h1 := fun _ => rfl) (enc := Value.string) ByteArray.empty HR (j : Int) (by omega) (by omega)).1
    rw [Int.toNat_natCast] at h
    rw [Nat.zero_add, h]
    simp [rdOf, hj]
  have hlt : g < w.heap.size := Kd.R_lt HR g rfl
  rcases Nat.lt_or_ge xs.length 2 with h2 | h2
  · obtain ⟨x, rfl⟩ : ∃ x, xs = [x] := by
      match xs, h1, h2 with
      | [x], _, _ => exact ⟨x, rfl⟩
    refine (Join_one g 0 cap x ⟨#[32]⟩ w (hcells 0 x rfl)).mono ?_
    rintro e w' ⟨rfl, rfl⟩
    refine ⟨?_, Below.refl _ _⟩
    have : joined [x] = x := by unfold joined; simp [Lib.join_one]
    rw [this]
  · have hcap := (Kd.R_reads' HR).2.1
    refine (Join_many g 0 cap xs ⟨#[32]⟩ w hcells hlt h2 (by omega) hcap ?_).mono ?_
    · have := joined_size xs h1 hlen
      have e1 : (joined xs).size = (Lib.join (xs.map (·.data.toList)) [32]).length := by unfold joined; show (Lib.join (xs.map (·.data.toList)) [32]).toArray.size = _; simp
      rw [e1] at this
      show (Lib.join (xs.map (·.data.toList)) [32]).length ≤ _
      omega
    · rintro e w' ⟨rfl, hb⟩
      exact ⟨rfl, hb⟩

theorem mayO_k {o : Ord} (h : mayO o = true) : 1 ≤ o.k ∧ o.k ≤ 9 ∧ badO o = false ∧ mayL o (partsK o.k).data.toList = true := by
  unfold mayO at h
  simp only [Bool.and_eq_true, decide_eq_true_eq, Bool.not_eq_true'] at h
  exact ⟨h.1.1.1, h.1.1.2, h.1.2, h.2⟩
theorem wordB_size (k : Int) (h1 : 1 ≤ k) (h9 : k ≤ 9) : (wordB k).size ≤ 100 :=
  kinds (p := fun k => (wordB k).size ≤ 100) ⟨by decide +kernel, by decide +kernel, by decide +kernel, by decide +kernel, by decide +kernel, by decide +kernel, by decide +kernel, by decide +kernel, by decide +kernel⟩ k h1 h9
theorem nameR_size {s : ByteArray} (h : nameR s = true) : s.size ≤ 20 := by
  unfold nameR at h
  simp only [Bool.and_eq_true, decide_eq_true_eq] at h
  exact h.1.1.2
theorem part_or {P : ByteArray} (hby : ∀ i (h : i < P.size), (P[i]'h).toNat = 99 ∨ (P[i]'h).toNat = 101 ∨ (P[i]'h).toNat = 117 ∨ (P[i]'h).toNat = 110) : ∀ c ∈ P.data.toList, c.toNat = 99 ∨ c.toNat = 101 ∨ c.toNat = 117 ∨ c.toNat = 110 := by
  intro c hc
  obtain ⟨i, hi, rfl⟩ := List.getElem_of_mem hc
  exact hby i (by rw [Array.length_toList] at hi; exact hi)
theorem texts_size (o : Ord) (h0 : -9223372036854775808 ≤ o.n) (h1 : o.n ≤ 9223372036854775807) : ∀ l : List UInt8, mayL o l = true → (∀ c ∈ l, c.toNat = 99 ∨ c.toNat = 101 ∨ c.toNat = 117 ∨ c.toNat = 110) → ∀ x ∈ textsO o l, x.size ≤ 100 := by
  intro l
  induction l with
  | nil => intro _ _ x hx; simp [textsO] at hx
  | cons c l ih =>
    intro hm hcc x hx
    unfold mayL at hm
    simp only [Bool.and_eq_true, Bool.or_eq_true, beq_iff_eq] at hm
    simp only [textsO, List.map_cons, List.mem_cons] at hx
    rcases hx with rfl | hx
    · rcases hcc c (by simp) with hc | hc | hc | hc
      · have h := hm.1
        rw [hc] at h ⊢
        simp [textO] at h
        have := nameR_size h
        simp [textP]; omega
      · have h := hm.1
        rw [hc] at h ⊢
        simp [textO] at h
        have := nameR_size h
        simp [textP]; omega
      · have h := hm.1
        rw [hc] at h ⊢
        simp [textO] at h
        have := nameR_size h
        simp [textP]; omega
      · rw [hc]
        have h := Lib.itoa_length_le o.n h0 h1
        have e : textP o 110 = ⟨(Lib.itoa o.n).toArray⟩ := by simp [textP]
        rw [e]
        show ((Lib.itoa o.n).toArray).size ≤ 100
        simp; omega
    · exact ih hm.2 (fun d hd => hcc d (by simp [hd])) x hx
theorem words_size (o : Ord) (h0 : -9223372036854775808 ≤ o.n) (h1 : o.n ≤ 9223372036854775807) (hm : mayO o = true) : ∀ x ∈ wordsO o, x.size ≤ 100 := by
  obtain ⟨k1, k9, _, hl⟩ := mayO_k hm
  intro x hx
  simp only [wordsO, List.mem_cons] at hx
  rcases hx with rfl | hx
  · exact wordB_size _ k1 k9
  · exact texts_size o h0 h1 _ hl (part_or (fun i hi => by rcases partsK_bytes o.k i hi with h | h | h | h <;> simp [h])) x hx
theorem str_info : (Tryd.prog.info? 9).map (fun i => (i.zero, i.size, i.bytes)) = some (some (.string ⟨#[]⟩), 1, 16) := by kernel_rfl

set_option maxHeartbeats 1000000 in
theorem Write_any (o : Ord) (hc : o.c.size ≤ 140737488351232) (he : o.e.size ≤ 140737488351232) (hus : o.u.size ≤ 140737488351232) (h0 : -9223372036854775808 ≤ o.n) (h1 : o.n ≤ 9223372036854775807) (w : World) (ht : Tab w) :
    Calls Tryd.prog 7 #[ordV o] w fun e w' => e = .returned (.tuple #[.string (writeR o).1, .int .i64 (writeR o).2]) ∧ Below w.heap.size w w' := by
  have hu := Tryd.underlying23
  cases hM : mayO o
  · have hmay : Hid (∀ W, Calls Tryd.prog 11 #[ordV o] W fun e w' => e = .returned (.bool false) ∧ Below W.heap.size W w') := fun W => by have h := May_any o hc he hus W; rw [hM] at h; exact h
    have hR : Hid (writeR o = (⟨#[]⟩, 2)) := by unfold writeR; rw [hM]; rfl
    clear hc he hus h0 h1 ht
    go_enter Tryd.func7, Tryd.ntmps7
    go_wp2_with (go_at_call 11; refine (hmay.out _).mono ?_; rintro e w1 ⟨rfl, hb1⟩; have HB1 := Lib.hid hb1; clear hb1)
    rw [hR.out]
    go_ret2
    exact ⟨rfl, (below_alloc (Below.refl _ _) _).trans (HB1.out.mono (by simp))⟩
  · have hmay : Hid (∀ W, Calls Tryd.prog 11 #[ordV o] W fun e w' => e = .returned (.bool true) ∧ Below W.heap.size W w') := fun W => by have h := May_any o hc he hus W; rw [hM] at h; exact h
    have hR : Hid (writeR o = (joined (wordsO o) ++ ⟨#[59]⟩, 0)) := by unfold writeR; rw [hM]; rfl
    have hsize := Lib.hid (words_size o h0 h1 hM)
    obtain ⟨k1, k9, _, _⟩ := mayO_k hM
    have H0 := Lib.hid h0
    have H1 := Lib.hid h1
    clear hc he hus h0 h1
    go_enter Tryd.func7, Tryd.ntmps7
    have hb0 := Lib.hid (below_alloc (Below.refl w.heap.size w) (.cells #[Value.int IntKind.i64 o.k, Value.string o.c, Value.string o.e, Value.string o.u, Value.int IntKind.i64 o.n] 23))
    have hO0 := Lib.hid (blk_new w (.cells #[Value.int IntKind.i64 o.k, Value.string o.c, Value.string o.e, Value.string o.u, Value.int IntKind.i64 o.n] 23))
    have HT := Lib.hid (tab_alloc ht (.cells #[Value.int IntKind.i64 o.k, Value.string o.c, Value.string o.e, Value.string o.u, Value.int IntKind.i64 o.n] 23))
    clear ht
    have hp := Lib.hid (parts_eq o.k k1 k9)
    generalize hW : w.alloc (.cells #[Value.int IntKind.i64 o.k, Value.string o.c, Value.string o.e, Value.string o.u, Value.int IntKind.i64 o.n] 23) = W at *
    have y0 : W.cell? ⟨w.heap.size, 0, none⟩ = some (.int .i64 o.k) := blk_cell hO0.out 0
    have y1 : W.cell? ⟨w.heap.size, 1, none⟩ = some (.string o.c) := blk_cell hO0.out 1
    have y2 : W.cell? ⟨w.heap.size, 2, none⟩ = some (.string o.e) := blk_cell hO0.out 2
    have y3 : W.cell? ⟨w.heap.size, 3, none⟩ = some (.string o.u) := blk_cell hO0.out 3
    have y4 : W.cell? ⟨w.heap.size, 4, none⟩ = some (.int .i64 o.n) := blk_cell hO0.out 4
    go_upto_region 3 with (go_at_call 11; refine (hmay.out _).mono ?_; rintro e wm ⟨rfl, hbm⟩; have hx : wm.cell? ⟨w.heap.size, 0, none⟩ = some (.int .i64 o.k) := ((bcell hbm).1 _ _ (blk_lt hO0.out)).trans y0; have HBm := Lib.hid hbm; clear hbm)
    clear y0 y1 y2 y3 y4
    go_cut [4] from 11 to 15 (fun v4 wx => v4 = .string (wordB o.k) ∧ Aside0 (Below W.heap.size W wx))
    case first =>
      go_region_with (go_at_call 13; refine (order_words.calls _ _ words_eq).mono ?_; rintro e w1 ⟨v0, rfl, hR1, hb1⟩; obtain ⟨A1, c1, rfl, hlc1, hC1⟩ := Kd.R_reads hR1; obtain ⟨ad1, e1, hx1⟩ := Kd.at_string hC1 o.k (by omega) (by show o.k < ((10 : Nat) : Int); omega); cases e1; rw [show wordsB.length = 10 from rfl]; have hx2 : w1.cell? ⟨w.heap.size, 0, none⟩ = some (.int .i64 o.k) := ((bcell hb1).1 _ _ (Nat.lt_of_lt_of_le (blk_lt hO0.out) HBm.out.size)).trans hx; have HB1 := Lib.hid hb1; clear hb1)
      all_goals (go_wp2_with fail; go_meet; exact ⟨rfl, ⟨HBm.out.trans (((Below.refl wm.heap.size wm).drew.trans HB1.out).mono HBm.out.size)⟩⟩)
    case rest =>
      obtain ⟨rfl, HBx⟩ := hcut
      rename World => w2
      clear hx HBm
      have HA := Lib.hid (partsK_ascii o.k)
      have hby := Lib.hid (partsK_bytes o.k)
      have hsz := partsK_size o.k
      have hWD : Hid (wordsO o = wordB o.k :: textsO o (partsK o.k).data.toList) := rfl
      generalize wordB o.k = wd at *
      generalize partsK o.k = P at *
      go_wp2_with (go_at_call 14; refine (order_parts.calls 1 _ _ _ hp.out).mono ?_; rintro e w3 ⟨rfl, ⟨n2, rfl⟩⟩)
      have hO1 : W.heap[w.heap.size]? = some (Obj.cells #[Value.int IntKind.i64 o.k, Value.string o.c, Value.string o.e, Value.string o.u, Value.int IntKind.i64 o.n] 23 (0, 0)) := hO0.out
      have hbW := blk_lt hO1
      obtain ⟨w4, hw4⟩ : ∃ w4, w4 = (w2.alloc (.cells #[.string wd] 9)).drewN n2 := ⟨_, rfl⟩
      rw [← hw4]
      have hs4 : w4.heap.size = w2.heap.size + 1 := by rw [hw4, World.heap_drewN, alloc_size]
      have HL4 : Kd.R Kd.string 9 w4 W.heap.size (fun k => k ≠ w2.heap.size + 1) (.slice (some ⟨w2.heap.size, 0, none⟩) 1 1) [wd] := by
        rw [hw4]
        refine Kd.R_drewN ?_ n2
        exact lit1 w2 W.heap.size wd HBx.out.size _ (by omega)
      have HB4 := Aside0.mk (by rw [hw4]; exact pw_below_drewN (below_alloc HBx.out (.cells #[.string wd] 9)) n2 : Below W.heap.size W w4)
      have hi0 := World.iter_heap w4 P 0
      have HL5 := Aside0.mk (Kd.R_alloc HL4 (.stringIter P 0))
      have HB5 := Aside0.mk (below_alloc HB4.out (.stringIter P 0))
      rw [hs4] at hi0
      have hit : W.heap.size < w2.heap.size + 1 := Nat.lt_succ_of_le HBx.out.size
      clear hw4 HBx HB4 HL4 hs4 hp
      generalize hv : Value.slice (some { block := w2.heap.size, off := 0 }) 1 1 = v5 at *
      clear hv
      generalize w2.heap.size + 1 = it at *
      have hHL : Aside0 (Kd.R Kd.string 9 (w4.iter P 0) W.heap.size (fun k => k ≠ it) v5 [wd]) := ⟨HL5.out⟩
      have hHB : Aside0 (Below W.heap.size W (w4.iter P 0)) := ⟨HB5.out⟩
      clear HL5 HB5
      generalize w4.iter P 0 = w5 at *
      go_loopw [5] (fun v wr => ∃ (pos : Nat) (xs : List ByteArray), pos ≤ P.size ∧ Aside0 (xs ++ textsO o (P.data.toList.drop pos) = wordsO o) ∧ Aside0 (xs.length = pos + 1) ∧ wr.heap[it]? = some (.stringIter P pos) ∧ Aside0 (Kd.R Kd.string 9 wr W.heap.size (fun k => k ≠ it) v xs) ∧ Aside0 (Below W.heap.size W wr))
        (fun _ wr => P.size - wr.iterPos it)
      case atStart => exact ⟨0, [wd], Nat.zero_le _, ⟨by rw [hWD.out]; rfl⟩, ⟨rfl⟩, hi0, hHL, hHB⟩
      case round =>
        clear hHL hHB hi0
        obtain ⟨pos, xs, hps, HX, hxl, hk, HR, HB⟩ := hrel
        obtain ⟨g, cap, rfl, hbg, hlg, _⟩ := Kd.R_form HR.out (by have := hxl.out; omega)
        by_cases hp : pos < P.size
        · have h128 := HA.out pos hp
          have hnext : ∀ ty, (Instr.next (.pointer (some ⟨it, 0, none⟩)) true ty).run Tryd.prog wr = _ := fun ty => Lib.run_next_ascii_at wr it P pos ty hk hp h128
          have hk1 := Lib.iterAt_heap wr it P pos (pos + 1) hk
          have HB1 := Aside0.mk (Lib.below_iterAt HB.out (show W.heap.size ≤ it by omega) P (pos + 1))
          have HR1 : Aside0 (Kd.R Kd.string 9 (wr.iterAt it P (pos + 1)) W.heap.size (fun k => k ≠ it) (.slice (some ⟨g, 0, none⟩) xs.length cap) xs) := ⟨Kd.R_step HR.out (fun k ho _ => Lib.iterAt_other wr it k P (pos + 1) ho)⟩
          have hmu : wr.iterPos it = pos := by simp [World.iterPos, hk]
          generalize wr.iterAt it P (pos + 1) = W1 at hnext hk1 HB1 HR1
          have hO2 := (HB1.out.block w.heap.size hbW).trans hO1
          have y0 : W1.cell? ⟨w.heap.size, 0, none⟩ = some (.int .i64 o.k) := blk_cell hO2 0
          have y1 : W1.cell? ⟨w.heap.size, 1, none⟩ = some (.string o.c) := blk_cell hO2 1
          have y2 : W1.cell? ⟨w.heap.size, 2, none⟩ = some (.string o.e) := blk_cell hO2 2
          have y3 : W1.cell? ⟨w.heap.size, 3, none⟩ = some (.string o.u) := blk_cell hO2 3
          have y4 : W1.cell? ⟨w.heap.size, 4, none⟩ = some (.int .i64 o.n) := blk_cell hO2 4
          have HT1 := Lib.hid (tab_below HT.out HB1.out)
          have HD := Lib.hid (drop_byte P pos hp)
          have hcc := hby.out pos hp
          have hil := Lib.hid (blk_lt hk1)
          clear hk hR HR HB hO2 h128
          generalize hc : (P[pos]'hp).toNat = c at *
          go_wp2_with (first
            | (go_at_call 15; refine (text_any o c hcc H0.out H1.out _ HT1.out).mono ?_; rintro e w1 ⟨rfl, hb1⟩; have HB2 := Lib.hid hb1; clear hb1)
            | (at_builtin; refine Kd.R_append Kd.string (w0 := W) W.heap.size rfl (.tmp 24) (.tmp 28) 36 9 _ 16 rfl Tryd.underlying36 str_info rfl (by decide) (by omega) (.slice (some ⟨g, 0, none⟩) xs.length cap) xs (textP o c) [.string (textP o c)] (fun k => k ≠ it) (fun _ => False) rfl (by simp [Act.eval]) rfl (fun _ hk => hk.elim) (fun k hk => by have a1 := hil.out; have a2 := HB2.out.size; omega) (Kd.R_below HR1.out HB2.out) (HB1.out.trans (HB2.out.mono HB1.out.size)) (Nat.le_trans HB1.out.size HB2.out.size) (by have := hxl.out; omega) ?_; intro v1 wa ho hba hg hat))
          refine ⟨⟨pos + 1, xs ++ [textP o c], hp, ⟨?_⟩, ⟨by rw [List.length_append, hxl.out]; rfl⟩, ?_, ⟨ho⟩, ⟨hba⟩⟩, ?_⟩
          · rw [← HX.out, HD.out]; simp [textsO, hc]
          · exact blk_grown ((HB2.out.block it hil.out).trans hk1) hg (fun h => by have h2 := HR1.out.1 g rfl; simp [Value.ownBlock] at h; omega)
          · have h3 : wa.heap[it]? = some (.stringIter P (pos + 1)) := blk_grown ((HB2.out.block it hil.out).trans hk1) hg (fun h => by have h2 := HR1.out.1 g rfl; simp [Value.ownBlock] at h; omega)
            rw [hmu, World.iterPos, h3]
            simp; omega
        · have hnext : ∀ ty, (Instr.next (.pointer (some ⟨it, 0, none⟩)) true ty).run Tryd.prog wr = _ := fun ty => Lib.run_next_end_at wr it P pos ty hk hp
          have hall : P.data.toList.drop pos = [] := List.drop_eq_nil_of_le (by rw [Array.length_toList]; show P.size ≤ pos; omega)
          have hX2 := HX.out
          rw [hall] at hX2
          simp only [textsO, List.map_nil, List.append_nil] at hX2
          have HXX := Aside0.mk hX2
          have hjoin := Lib.hid (Join_R g cap xs wr W.heap.size _ HR.out (by have := hxl.out; omega) (by have := hxl.out; omega) (by rw [hX2]; exact hsize.out))
          have hcat : ¬ 9223372036854775807 < (joined xs).size + 1 := by
            have a1 := joined_size xs (by have := hxl.out; omega) (by rw [hX2]; exact hsize.out)
            have a2 := hxl.out
            omega
          clear hX2 hall
          go_wp2_with (go_at_call 16; refine (hjoin.out).mono ?_; rintro e w1 ⟨rfl, hb1⟩; have HB2 := Lib.hid hb1; clear hb1)
          rw [hR.out, ← HXX.out]
          go_ret2
          exact ⟨rfl, (hb0.out.trans (HB.out.mono hb0.out.size)).trans (HB2.out.mono ((hb0.out.trans (HB.out.mono hb0.out.size)).size))⟩
end Go.Proofs.YtdphomiljkclbaaDoor
