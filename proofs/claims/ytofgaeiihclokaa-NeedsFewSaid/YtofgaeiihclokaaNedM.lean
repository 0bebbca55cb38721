/- NeedsFew's walk. No conditions beyond those typed. -/
import Derived.Test.YtofgaeiihclokaaNedK
namespace Go.Proofs.Ytofgaeiihclokaa.P
open Go.RowKit Go.Shelf Go.Lib Go.Sort Go.Maps Go.Proofs.YtofgaeiihclokaaW.PrintWords Go.Proofs.YtofgaeiihclokaaW.PrintLast Go.Proofs.YtofgaeiihclokaaW.PrintMore
set_option linter.unusedVariables false
set_option linter.unusedSimpArgs false

theorem push_alloc (w : World) (o : Obj) : (w.alloc o).heap = w.heap.push o := rfl
theorem heap_drew' (w : World) : w.drew.heap = w.heap := rfl
theorem empty_R {W : World} {base b : Nat} (h : W.heap[b]? = some (.cells #[] 48 (0, 0))) (hb : base ≤ b) : Kd.R k48 48 W base (fun _ => True) (.slice (some ⟨b, 0, none⟩) 0 0) [] :=
  ⟨fun _ _ => trivial, [], ⟨rfl, .inr ⟨b, 0, #[], rfl, hb, h, Nat.le_refl _, by decide, rfl, rfl⟩⟩, Reps.none _ _⟩
theorem tie_KM {W W' : World} {base : Nat} {ok : Nat → Prop} {x : S48} {cs : List Value} (h : k48.K W x cs) : k48.M W' base ok x cs := by
  obtain rfl := k48_open h
  exact k48_mkM _ _ _ x
theorem one_C {W : World} {b : Nat} {t0 t1 t2 t3 : Int} (h : W.heap[b]? = some (.cells #[.int .i64 t0, .int .i64 t1, .int .i64 t2, .int .i64 t3] 48 (0, 0))) : Kd.C k48 W (some ⟨b, 0, none⟩) 1 [⟨t0, t1, t2, t3⟩] := by
  refine ⟨rfl, by decide, fun _ => ⟨_, rfl, fun j p hj => ?_⟩⟩
  rcases j with _ | j
  · obtain rfl : (⟨t0, t1, t2, t3⟩ : S48) = p := by simpa using hj
    refine ⟨_, rfl, k48_mk W _, fun i u hu => ?_⟩
    rw [add_plain, blkc h]
    rcases i with _ | _ | _ | _ | i <;> first | exact hu | (simp at hu)
  · simp at hj
theorem keep25 {W w8 : World} {base : Nat} {ok : Nat → Prop} {v : Value} {l : List S48} (hr : Kd.R k48 48 W base ok v l) (hg : W.grownBy w8 v.ownBlock) {K : Nat} {n : Nat} {cs : Array Value} (hh : W.heap[K]? = some (.cells cs 25 (0, 0)) ∧ n ≤ K) : w8.heap[K]? = some (.cells cs 25 (0, 0)) ∧ n ≤ K := by
  obtain ⟨h, hn⟩ := hh
  refine ⟨(hg.block _ (Array.getElem?_eq_some_iff.1 h).1 (fun e => ?_)).trans h, hn⟩
  obtain ⟨inner, hown⟩ := Kd.R_own hr
  obtain ⟨cells, hc⟩ := own_typed hown K e.symm
  rw [h] at hc
  injection hc with hc
  injection hc with _ hc
  exact absurd hc (by decide)
theorem thaw25 {w8 : World} {K : Nat} {cs : Array Value} (h : w8.heap[K]? = some (.cells cs 25 (0, 0))) (j : Nat) : w8.frozen? ⟨K, j, none⟩ = false := by
  simp [World.frozen?, h]
section
variable {P : Program} {md : Region.Mode} {ops : Array Oper} {Q : Exit → Act → World → Prop} {S : World → Prop}
/-- The library's wpAnyH_take, the destination named. -/
theorem wpAnyH_take2 {i : Nat} {oi : Oper} {d : Option Tmp} {v : Value} {fuel : Nat} {listed : Array Bool} {a : Act} {w : World} (hi : ops[i]? = some oi) (hd : oi.dst = d)
    (hs : Region.noSelect ops = true) (hf : Region.free md ops listed i = true) (hr : (Region.ready md ops listed).contains i = true)
    (hQ : ∀ c a w, Q (.panic c) (a.put d v) w → Q (.panic c) a w) (hy : YieldsIf P ops S oi v a) (hS : S w)
    (h : wpAnyH P md ops Q S fuel (listed.setIfInBounds i true) (a.put d v) w) : wpAnyH P md ops Q S (fuel + 1) listed a w := by
  subst hd
  exact wpAnyH_take hi hs hf hr hQ hy hS h
end
theorem share2 {α0 α1 : Type} {G F : α0 → α1 → Prop} {goal : Prop} (h1 : (∀ a0 a1, F a0 a1 → G a0 a1) → goal) (h2 : ∀ a0 a1, F a0 a1 → G a0 a1) : goal := h1 h2
theorem share3 {α0 α1 α2 : Type} {G F : α0 → α1 → α2 → Prop} {goal : Prop} (h1 : (∀ a0 a1 a2, F a0 a1 a2 → G a0 a1 a2) → goal) (h2 : ∀ a0 a1 a2, F a0 a1 a2 → G a0 a1 a2) : goal := h1 h2
theorem share4 {α0 α1 α2 α3 : Type} {G F : α0 → α1 → α2 → α3 → Prop} {goal : Prop} (h1 : (∀ a0 a1 a2 a3, F a0 a1 a2 a3 → G a0 a1 a2 a3) → goal) (h2 : ∀ a0 a1 a2 a3, F a0 a1 a2 a3 → G a0 a1 a2 a3) : goal := h1 h2
theorem share5 {α0 α1 α2 α3 α4 : Type} {G F : α0 → α1 → α2 → α3 → α4 → Prop} {goal : Prop} (h1 : (∀ a0 a1 a2 a3 a4, F a0 a1 a2 a3 a4 → G a0 a1 a2 a3 a4) → goal) (h2 : ∀ a0 a1 a2 a3 a4, F a0 a1 a2 a3 a4 → G a0 a1 a2 a3 a4) : goal := h1 h2
theorem share6 {α0 α1 α2 α3 α4 α5 : Type} {G F : α0 → α1 → α2 → α3 → α4 → α5 → Prop} {goal : Prop} (h1 : (∀ a0 a1 a2 a3 a4 a5, F a0 a1 a2 a3 a4 a5 → G a0 a1 a2 a3 a4 a5) → goal) (h2 : ∀ a0 a1 a2 a3 a4 a5, F a0 a1 a2 a3 a4 a5 → G a0 a1 a2 a3 a4 a5) : goal := h1 h2
theorem share7 {α0 α1 α2 α3 α4 α5 α6 : Type} {G F : α0 → α1 → α2 → α3 → α4 → α5 → α6 → Prop} {goal : Prop} (h1 : (∀ a0 a1 a2 a3 a4 a5 a6, F a0 a1 a2 a3 a4 a5 a6 → G a0 a1 a2 a3 a4 a5 a6) → goal) (h2 : ∀ a0 a1 a2 a3 a4 a5 a6, F a0 a1 a2 a3 a4 a5 a6 → G a0 a1 a2 a3 a4 a5 a6) : goal := h1 h2
theorem share8 {α0 α1 α2 α3 α4 α5 α6 α7 : Type} {G F : α0 → α1 → α2 → α3 → α4 → α5 → α6 → α7 → Prop} {goal : Prop} (h1 : (∀ a0 a1 a2 a3 a4 a5 a6 a7, F a0 a1 a2 a3 a4 a5 a6 a7 → G a0 a1 a2 a3 a4 a5 a6 a7) → goal) (h2 : ∀ a0 a1 a2 a3 a4 a5 a6 a7, F a0 a1 a2 a3 a4 a5 a6 a7 → G a0 a1 a2 a3 a4 a5 a6 a7) : goal := h1 h2
theorem al_get {wn : World} (o : Obj) {b n : Nat} {x : Obj} (h : wn.heap[b]? = some x ∧ n ≤ b) : (wn.alloc o).heap[b]? = some x ∧ n ≤ b :=
  ⟨(Below.heap_alloc _ _ _ (Array.getElem?_eq_some_iff.1 h.1).1).trans h.1, h.2⟩
theorem al_new (wn : World) (o : Obj) {n : Nat} (h : n ≤ wn.heap.size) : (wn.alloc o).heap[wn.heap.size]? = some o ∧ n ≤ wn.heap.size := ⟨blk_new _ _, h⟩
theorem al_ne {wn : World} {b : Nat} {x : Obj} (h : wn.heap[b]? = some x) : b ≠ wn.heap.size := fun e => by
  have := (Array.getElem?_eq_some_iff.1 h).1
  omega
theorem and_keep7 {W w8 : World} {b7 b2 n c : Nat} {x : Obj} (hg : W.grownBy w8 (Value.slice (some ⟨b2, 0, none⟩) 0 c).ownBlock) (hne : b7 ≠ b2) (h : W.heap[b7]? = some x ∧ n ≤ b7) : w8.heap[b7]? = some x ∧ n ≤ b7 :=
  ⟨(hg.block _ (Array.getElem?_eq_some_iff.1 h.1).1 (fun e => hne (by simpa [Value.ownBlock] using e))).trans h.1, h.2⟩
theorem fixed {w w2 wn : World} {A0 A1 : Option Addr} {n c0 m c1 : Nat} {t0 t1 t2 t3 : Int} (HN : Below w2.heap.size w2 wn) (HK2 : w2.heap[w.heap.size]? = some (.cells #[.slice A0 n c0, .slice A1 m c1] 25 (0, 0))) (HT2 : w2.heap[w.heap.size + 1]? = some (.cells #[.int .i64 t0, .int .i64 t1, .int .i64 t2, .int .i64 t3] 48 (0, 0))) :
    wn.cell? ⟨w.heap.size, 0, none⟩ = some (.slice A0 n c0) ∧ wn.cell? ⟨w.heap.size, 1, none⟩ = some (.slice A1 m c1) ∧ wn.cell? ⟨w.heap.size + 1, 0, none⟩ = some (.int .i64 t0) ∧ wn.cell? ⟨w.heap.size + 1, 1, none⟩ = some (.int .i64 t1) ∧ wn.cell? ⟨w.heap.size + 1, 2, none⟩ = some (.int .i64 t2) ∧ wn.cell? ⟨w.heap.size + 1, 3, none⟩ = some (.int .i64 t3) := by
  have hk := (HN.block _ (Array.getElem?_eq_some_iff.1 HK2).1).trans HK2
  have ht := (HN.block _ (Array.getElem?_eq_some_iff.1 HT2).1).trans HT2
  exact ⟨blkc hk 0, blkc hk 1, blkc ht 0, blkc ht 1, blkc ht 2, blkc ht 3⟩
theorem len_one {T : List S48} {t : S48} : (T ++ [t]).length = T.length + 1 := by simp
theorem set_same {w : World} {b i t : Nat} {cs : Array Value} (h : w.heap[b]? = some (.cells cs t (0, 0))) (v : Value) : (w.setCell ⟨b, i, none⟩ v).heap[b]? = some (.cells (cs.setIfInBounds i v) t (0, 0)) := by
  simp [World.setCell, Array.getElem?_modify, h]
/-- The law's two graphs, in memory. -/
structure GIn (w : World) (bf gb : Nat) (A0 A1 : Option Addr) (c0 c1 : Nat) (E : List S68) (T : List S48) (t : S48) (wr : World) : Prop where
  on : Below w.heap.size w wr
  bf : wr.heap[bf]? = some (.cells #[.slice A0 E.length c0, .slice A1 T.length c1] 25 (0, 0))
  g : ∃ A2 c2, wr.heap[gb]? = some (.cells #[.slice A0 E.length c0, .slice A2 (T ++ [t]).length c2] 25 (0, 0)) ∧ (T ++ [t]).length ≤ c2 ∧ Kd.C k48 wr A2 (T ++ [t]).length (T ++ [t])
theorem fin_g {w w2 wn : World} {b10 : Nat} {A0 A1 A8 : Option Addr} {c0 c1 c8 : Nat} {E : List S68} {T : List S48} {t : S48} (HB2 : Below w.heap.size w w2) (HN : Below w2.heap.size w2 wn)
    (HK2 : w2.heap[w.heap.size]? = some (.cells #[.slice A0 E.length c0, .slice A1 T.length c1] 25 (0, 0))) (HB10 : wn.heap[b10]? = some (.cells #[.slice none 0 0, .slice none 0 0] 25 (0, 0)) ∧ w2.heap.size ≤ b10)
    (HR8 : Kd.R k48 48 wn w2.heap.size (fun _ => True) (.slice A8 (T.length + 1) c8) (T ++ [t])) : GIn w w.heap.size b10 A0 A1 c0 c1 E T t ((wn.setCell ⟨b10, 0, none⟩ (.slice A0 E.length c0)).setCell ⟨b10, 1, none⟩ (.slice A8 (T.length + 1) c8)) where
  on := HB2.trans ((below_set (below_set HN HB10.2) HB10.2).mono HB2.size)
  bf := ((below_set (below_set HN HB10.2) HB10.2).block _ (Array.getElem?_eq_some_iff.1 HK2).1).trans HK2
  g := by
    rw [← len_one (t := t)] at HR8 ⊢
    have h1 := set_same (i := 0) HB10.1 (.slice A0 E.length c0)
    have h2 := set_same (i := 1) h1 (.slice A8 (T ++ [t]).length c8)
    have hne : ∀ q, q ∈ 48 :: Kd.E k48 → q ≠ 25 := by decide
    have hr := Kd.R_set (Kd.R_set HR8 HB10.1 hne 0 (.slice A0 E.length c0)) h1 hne 1 (.slice A8 (T ++ [t]).length c8)
    obtain ⟨_, h3, h4⟩ := Kd.R_reads' hr
    exact ⟨A8, c8, h2, h3, h4⟩
/-- NeedsFew, within its loops. -/
structure FIn (w : World) (gb : Nat) (A0 A1 A2 : Option Addr) (n c0 m c1 q c2 : Nat) (G : List S48) (wr : World) : Prop where
  on : Below w.heap.size w wr
  bf : wr.heap[w.heap.size]? = some (.cells #[.slice A0 n c0, .slice A1 m c1] 25 (0, 0))
  bg : wr.heap[gb]? = some (.cells #[.slice A0 n c0, .slice A2 q c2] 25 (0, 0))
  cg : Kd.C k48 wr A2 q G
theorem FIn.keep {w wr wq : World} {gb : Nat} {A0 A1 A2 : Option Addr} {n c0 m c1 q c2 : Nat} {G : List S48} (h : FIn w gb A0 A1 A2 n c0 m c1 q c2 G wr) (hb : Below wr.heap.size wr wq) : FIn w gb A0 A1 A2 n c0 m c1 q c2 G wq where
  on := h.on.trans (hb.mono h.on.size)
  bf := (hb.block _ (Array.getElem?_eq_some_iff.1 h.bf).1).trans h.bf
  bg := (hb.block _ (Array.getElem?_eq_some_iff.1 h.bg).1).trans h.bg
  cg := Kd.C_below h.cg hb
theorem info_tie : (Try.prog.info? 48).map (fun i => (i.zero, i.size, i.bytes)) = some (some (.agg #[(.int .i64 0), (.int .i64 0), (.int .i64 0), (.int .i64 0)]), 4, 32) := by kernel_rfl
set_option maxHeartbeats 8000000 in
set_option maxRecDepth 100000 in
theorem NeedsFew_walk (A0 A1 : Option Addr) (c0 c1 : Nat) (E : List S68) (T : List S48) (t0 t1 t2 t3 : Int) (w : World) (h0 : Kd.C k68 w A0 E.length E) (hc0 : E.length ≤ c0) (h1 : Kd.C k48 w A1 T.length T) (hc1 : T.length ≤ c1) :
    Calls Try.prog 5 #[.agg #[.slice A0 E.length c0, .slice A1 T.length c1], .agg #[.int .i64 t0, .int .i64 t1, .int .i64 t2, .int .i64 t3]] w fun e w' => e = .returned (.bool true) ∧ Below w.heap.size w w' := by
  have hb0 : Below w.heap.size w ((w.alloc (.cells #[.slice A0 E.length c0, .slice A1 T.length c1] 25)).alloc (.cells #[.int .i64 t0, .int .i64 t1, .int .i64 t2, .int .i64 t3] 48)) := ((Below.refl w.heap.size w).alloc (Nat.le_refl _) _).alloc (by simp) _
  have HB0 := Lib.hid hb0
  have hk0 : ((w.alloc (.cells #[.slice A0 E.length c0, .slice A1 T.length c1] 25)).alloc (.cells #[.int .i64 t0, .int .i64 t1, .int .i64 t2, .int .i64 t3] 48)).heap[w.heap.size]? = some (.cells #[.slice A0 E.length c0, .slice A1 T.length c1] 25 (0, 0)) := (Below.heap_alloc _ _ w.heap.size (by simp)).trans (blk_new w _)
  have hk1 : ((w.alloc (.cells #[.slice A0 E.length c0, .slice A1 T.length c1] 25)).alloc (.cells #[.int .i64 t0, .int .i64 t1, .int .i64 t2, .int .i64 t3] 48)).heap[w.heap.size + 1]? = some (.cells #[.int .i64 t0, .int .i64 t1, .int .i64 t2, .int .i64 t3] 48 (0, 0)) := by
    have := blk_new (w.alloc (.cells #[.slice A0 E.length c0, .slice A1 T.length c1] 25)) (.cells #[.int .i64 t0, .int .i64 t1, .int .i64 t2, .int .i64 t3] 48)
    simpa using this
  have HK := Lib.hid hk0
  have HT := Lib.hid hk1
  have H0 := Lib.hid h0
  have H1 := Lib.hid h1
  clear hb0 h0 h1 hk0 hk1
  go_enter Try.func5, Try.ntmps5
  go_wp2_with fail
  refine (replevinlaw07_awake.calls true _ rfl).mono ?_
  rintro e w1 ⟨rfl, hb1⟩
  have HB1 := Lib.hid (HB0.out.trans (hb1.mono HB0.out.size))
  have HK1 := Lib.hid ((hb1.block w.heap.size (by simp; omega)).trans HK.out)
  have HT1 := Lib.hid ((hb1.block (w.heap.size + 1) (by simp)).trans HT.out)
  have b0 := blkc HK1.out 0
  have b1 := blkc HK1.out 1
  change _ = some (Value.slice A0 E.length c0) at b0
  change _ = some (Value.slice A1 T.length c1) at b1
  clear hb1 HB0 HK HT
  go_wp2_with fail
  obtain ⟨big, hbig⟩ : ∃ big, replevinlaw07_large.f E T = some big := by
    unfold replevinlaw07_large.f
    split
    · exact ⟨_, rfl⟩
    · exact ⟨_, rfl⟩
  refine (replevinlaw07_large.calls A0 c0 E A1 c1 T big w1 (Kd.C_below H0.out HB1.out) hc0 (Kd.C_below H1.out HB1.out) hc1 hbig).mono ?_
  rintro e w2 ⟨rfl, hb2⟩
  have HB2 := Lib.hid (HB1.out.trans (hb2.mono HB1.out.size))
  have HK2 := Lib.hid ((hb2.block w.heap.size (Array.getElem?_eq_some_iff.1 HK1.out).1).trans HK1.out)
  have HT2 := Lib.hid ((hb2.block (w.heap.size + 1) (Array.getElem?_eq_some_iff.1 HT1.out).1).trans HT1.out)
  clear hb2 HB1 HK1 b0 b1 HT1
  have HBIG := Lib.hid hbig
  clear hbig
  cases big with
  | true =>
    go_wp2_with fail
    go_ret
    exact ⟨rfl, HB2.out⟩
  | false =>
    have hsz : E.length ≤ 20 ∧ T.length ≤ 150 := by
      have := HBIG.out
      unfold replevinlaw07_large.f at this
      split at this
      · cases this
      · injection this with this
        rw [decide_eq_false_iff_not] at this
        omega
    obtain ⟨hE, hT⟩ := hsz
    have b0 := blkc HK2.out 0
    have b1 := blkc HK2.out 1
    have d0 := blkc HT2.out 0
    have d1 := blkc HT2.out 1
    have d2 := blkc HT2.out 2
    have d3 := blkc HT2.out 3
    change _ = some (Value.slice A0 E.length c0) at b0
    change _ = some (Value.slice A1 T.length c1) at b1
    change _ = some (Value.int .i64 t0) at d0
    change _ = some (Value.int .i64 t1) at d1
    change _ = some (Value.int .i64 t2) at d2
    change _ = some (Value.int .i64 t3) at d3
    go_wp2_with fail
    have HSZ := Lib.hid (And.intro hE hT)
    have hl150 : (0 + T.length) * 32 ≤ 140737488355328 := by omega
    have HL150 := Lib.hid hl150
    have hl151 : (T.length + 1) * 32 ≤ 140737488355328 := by omega
    have HL151 := Lib.hid hl151
    have hn1 : T.length ≤ 9223372036854775807 := by omega
    clear hl150 hl151
    go_upto_region 6 with (fail)
    go_cut [5] (fun v wc => ∃ gb, v = .pointer (some ⟨gb, 0, none⟩) ∧ Hid (GIn w w.heap.size gb A0 A1 c0 c1 E T ⟨t0, t1, t2, t3⟩ wc))
    case first =>
      have HB2w := HB2
      clear HB2
      refine wp_region_held_drew (S := (fun w' => w'.cell? ⟨w.heap.size, 0, none⟩ = some (.slice A0 E.length c0) ∧ w'.cell? ⟨w.heap.size, 1, none⟩ = some (.slice A1 T.length c1) ∧ w'.cell? ⟨w.heap.size + 1, 0, none⟩ = some (.int .i64 t0) ∧ w'.cell? ⟨w.heap.size + 1, 1, none⟩ = some (.int .i64 t1) ∧ w'.cell? ⟨w.heap.size + 1, 2, none⟩ = some (.int .i64 t2) ∧ w'.cell? ⟨w.heap.size + 1, 3, none⟩ = some (.int .i64 t3))) (by kernel_rfl) (by (try dsimp only); exact fixed (below_drew (Below.refl _ w2)) HK2.out HT2.out) (fun hHeld => ?_)
      (refine wpAnyH_take2 (i := 0) (d := some 15) (v := ?_) rfl rfl (by kernel_rfl) (by kernel_rfl) (by kernel_rfl) (fun _ _ _ h => h) (Or.inl ⟨by rfl, ?_⟩) (by assumption) ?_; rotate_left; focus (intro w_ hSw_; (try dsimp only at hSw_); go_simp; try with_reducible rfl); try simp only [Act.put, List.setIfInBounds_toArray, List.set_cons_zero, List.set_cons_succ])
      (refine wpAnyH_take2 (i := 1) (d := some 16) (v := ?_) rfl rfl (by kernel_rfl) (by kernel_rfl) (by kernel_rfl) (fun _ _ _ h => h) (Or.inl ⟨by rfl, ?_⟩) (by assumption) ?_; rotate_left; focus (intro w_ hSw_; (try dsimp only at hSw_); go_simp; try with_reducible rfl); try simp only [Act.put, List.setIfInBounds_toArray, List.set_cons_zero, List.set_cons_succ])
      (refine wpAnyH_take2 (i := 3) (d := some 18) (v := ?_) rfl rfl (by kernel_rfl) (by kernel_rfl) (by kernel_rfl) (fun _ _ _ h => h) (Or.inl ⟨by rfl, ?_⟩) (by assumption) ?_; rotate_left; focus (intro w_ hSw_; (try dsimp only at hSw_); go_simp; try with_reducible rfl); try simp only [Act.put, List.setIfInBounds_toArray, List.set_cons_zero, List.set_cons_succ])
      (refine wpAnyH_take2 (i := 4) (d := some 19) (v := ?_) rfl rfl (by kernel_rfl) (by kernel_rfl) (by kernel_rfl) (fun _ _ _ h => h) (Or.inl ⟨by rfl, ?_⟩) (by assumption) ?_; rotate_left; focus (intro w_ hSw_; (try dsimp only at hSw_); go_simp; try with_reducible rfl); try simp only [Act.put, List.setIfInBounds_toArray, List.set_cons_zero, List.set_cons_succ])
      (refine wpAnyH_take2 (i := 6) (d := some 21) (v := ?_) rfl rfl (by kernel_rfl) (by kernel_rfl) (by kernel_rfl) (fun _ _ _ h => h) (Or.inl ⟨by rfl, ?_⟩) (by assumption) ?_; rotate_left; focus (intro w_ hSw_; (try dsimp only at hSw_); go_simp; try with_reducible rfl); try simp only [Act.put, List.setIfInBounds_toArray, List.set_cons_zero, List.set_cons_succ])
      clear b0 b1 d0 d1 d2 d3
      have hn := below_drew (Below.refl w2.heap.size w2)
      generalize w2.drew = wn at hn ⊢ hHeld
      have HN := Lib.hid hn
      clear hn
      refine' share8 (G := _) (F := fun (wn : World) (b2 : Nat) (b7 : Nat) (b10 : Nat) (A6 : Option Addr) (c6 : Nat) (A8 : Option Addr) (c8 : Nat) => (wn.cell? ⟨w.heap.size, 0, none⟩ = some (.slice A0 E.length c0) ∧ wn.cell? ⟨w.heap.size, 1, none⟩ = some (.slice A1 T.length c1) ∧ wn.cell? ⟨w.heap.size + 1, 0, none⟩ = some (.int .i64 t0) ∧ wn.cell? ⟨w.heap.size + 1, 1, none⟩ = some (.int .i64 t1) ∧ wn.cell? ⟨w.heap.size + 1, 2, none⟩ = some (.int .i64 t2) ∧ wn.cell? ⟨w.heap.size + 1, 3, none⟩ = some (.int .i64 t3)) ∧ Hid (Below w2.heap.size w2 wn) ∧ Hid ((wn.heap[b10]? = some (Obj.cells #[.slice none 0 0, .slice none 0 0] 25 (0, 0)) ∧ w2.heap.size ≤ b10)) ∧ Hid (Kd.R k48 48 wn w2.heap.size (fun _ => True) (.slice A8 (T.length + 1) c8) (T ++ [⟨t0, t1, t2, t3⟩]))) (fun N2_5_7_8_10 => ?_) ?_; rotate_left
      refine' share7 (G := _) (F := fun (wn : World) (b2 : Nat) (b7 : Nat) (A6 : Option Addr) (c6 : Nat) (A8 : Option Addr) (c8 : Nat) => (wn.cell? ⟨w.heap.size, 0, none⟩ = some (.slice A0 E.length c0) ∧ wn.cell? ⟨w.heap.size, 1, none⟩ = some (.slice A1 T.length c1) ∧ wn.cell? ⟨w.heap.size + 1, 0, none⟩ = some (.int .i64 t0) ∧ wn.cell? ⟨w.heap.size + 1, 1, none⟩ = some (.int .i64 t1) ∧ wn.cell? ⟨w.heap.size + 1, 2, none⟩ = some (.int .i64 t2) ∧ wn.cell? ⟨w.heap.size + 1, 3, none⟩ = some (.int .i64 t3)) ∧ Hid (Below w2.heap.size w2 wn) ∧ Hid (Kd.R k48 48 wn w2.heap.size (fun _ => True) (.slice A8 (T.length + 1) c8) (T ++ [⟨t0, t1, t2, t3⟩]))) (fun N2_5_7_8 => ?_) ?_; rotate_left
      refine' share6 (G := _) (F := fun (wn : World) (b2 : Nat) (b7 : Nat) (b10 : Nat) (A6 : Option Addr) (c6 : Nat) => (wn.cell? ⟨w.heap.size, 0, none⟩ = some (.slice A0 E.length c0) ∧ wn.cell? ⟨w.heap.size, 1, none⟩ = some (.slice A1 T.length c1) ∧ wn.cell? ⟨w.heap.size + 1, 0, none⟩ = some (.int .i64 t0) ∧ wn.cell? ⟨w.heap.size + 1, 1, none⟩ = some (.int .i64 t1) ∧ wn.cell? ⟨w.heap.size + 1, 2, none⟩ = some (.int .i64 t2) ∧ wn.cell? ⟨w.heap.size + 1, 3, none⟩ = some (.int .i64 t3)) ∧ Hid (Below w2.heap.size w2 wn) ∧ Hid ((wn.heap[b7]? = some (Obj.cells #[.int .i64 t0, .int .i64 t1, .int .i64 t2, .int .i64 t3] 48 (0, 0)) ∧ w2.heap.size ≤ b7)) ∧ Hid ((wn.heap[b10]? = some (Obj.cells #[.slice none 0 0, .slice none 0 0] 25 (0, 0)) ∧ w2.heap.size ≤ b10)) ∧ Hid (Kd.R k48 48 wn w2.heap.size (fun _ => True) (.slice A6 T.length c6) T)) (fun N2_5_7_10 => ?_) ?_; rotate_left
      refine' share5 (G := _) (F := fun (wn : World) (b2 : Nat) (b7 : Nat) (A6 : Option Addr) (c6 : Nat) => (wn.cell? ⟨w.heap.size, 0, none⟩ = some (.slice A0 E.length c0) ∧ wn.cell? ⟨w.heap.size, 1, none⟩ = some (.slice A1 T.length c1) ∧ wn.cell? ⟨w.heap.size + 1, 0, none⟩ = some (.int .i64 t0) ∧ wn.cell? ⟨w.heap.size + 1, 1, none⟩ = some (.int .i64 t1) ∧ wn.cell? ⟨w.heap.size + 1, 2, none⟩ = some (.int .i64 t2) ∧ wn.cell? ⟨w.heap.size + 1, 3, none⟩ = some (.int .i64 t3)) ∧ Hid (Below w2.heap.size w2 wn) ∧ Hid ((wn.heap[b7]? = some (Obj.cells #[.int .i64 t0, .int .i64 t1, .int .i64 t2, .int .i64 t3] 48 (0, 0)) ∧ w2.heap.size ≤ b7)) ∧ Hid (Kd.R k48 48 wn w2.heap.size (fun _ => True) (.slice A6 T.length c6) T)) (fun N2_5_7 => ?_) ?_; rotate_left
      refine' share5 (G := _) (F := fun (wn : World) (b2 : Nat) (b10 : Nat) (A6 : Option Addr) (c6 : Nat) => (wn.cell? ⟨w.heap.size, 0, none⟩ = some (.slice A0 E.length c0) ∧ wn.cell? ⟨w.heap.size, 1, none⟩ = some (.slice A1 T.length c1) ∧ wn.cell? ⟨w.heap.size + 1, 0, none⟩ = some (.int .i64 t0) ∧ wn.cell? ⟨w.heap.size + 1, 1, none⟩ = some (.int .i64 t1) ∧ wn.cell? ⟨w.heap.size + 1, 2, none⟩ = some (.int .i64 t2) ∧ wn.cell? ⟨w.heap.size + 1, 3, none⟩ = some (.int .i64 t3)) ∧ Hid (Below w2.heap.size w2 wn) ∧ Hid ((wn.heap[b10]? = some (Obj.cells #[.slice none 0 0, .slice none 0 0] 25 (0, 0)) ∧ w2.heap.size ≤ b10)) ∧ Hid (Kd.R k48 48 wn w2.heap.size (fun _ => True) (.slice A6 T.length c6) T)) (fun N2_5_10 => ?_) ?_; rotate_left
      refine' share4 (G := _) (F := fun (wn : World) (b2 : Nat) (b7 : Nat) (b10 : Nat) => (wn.cell? ⟨w.heap.size, 0, none⟩ = some (.slice A0 E.length c0) ∧ wn.cell? ⟨w.heap.size, 1, none⟩ = some (.slice A1 T.length c1) ∧ wn.cell? ⟨w.heap.size + 1, 0, none⟩ = some (.int .i64 t0) ∧ wn.cell? ⟨w.heap.size + 1, 1, none⟩ = some (.int .i64 t1) ∧ wn.cell? ⟨w.heap.size + 1, 2, none⟩ = some (.int .i64 t2) ∧ wn.cell? ⟨w.heap.size + 1, 3, none⟩ = some (.int .i64 t3)) ∧ Hid (Below w2.heap.size w2 wn) ∧ Hid ((wn.heap[b2]? = some (Obj.cells #[] 48 (0, 0)) ∧ w2.heap.size ≤ b2)) ∧ Hid ((wn.heap[b7]? = some (Obj.cells #[.int .i64 t0, .int .i64 t1, .int .i64 t2, .int .i64 t3] 48 (0, 0)) ∧ w2.heap.size ≤ b7)) ∧ Hid ((wn.heap[b10]? = some (Obj.cells #[.slice none 0 0, .slice none 0 0] 25 (0, 0)) ∧ w2.heap.size ≤ b10)) ∧ Hid (b7 ≠ b2)) (fun N2_7_10 => ?_) ?_; rotate_left
      refine' share4 (G := _) (F := fun (wn : World) (b2 : Nat) (A6 : Option Addr) (c6 : Nat) => (wn.cell? ⟨w.heap.size, 0, none⟩ = some (.slice A0 E.length c0) ∧ wn.cell? ⟨w.heap.size, 1, none⟩ = some (.slice A1 T.length c1) ∧ wn.cell? ⟨w.heap.size + 1, 0, none⟩ = some (.int .i64 t0) ∧ wn.cell? ⟨w.heap.size + 1, 1, none⟩ = some (.int .i64 t1) ∧ wn.cell? ⟨w.heap.size + 1, 2, none⟩ = some (.int .i64 t2) ∧ wn.cell? ⟨w.heap.size + 1, 3, none⟩ = some (.int .i64 t3)) ∧ Hid (Below w2.heap.size w2 wn) ∧ Hid (Kd.R k48 48 wn w2.heap.size (fun _ => True) (.slice A6 T.length c6) T)) (fun N2_5 => ?_) ?_; rotate_left
      refine' share3 (G := _) (F := fun (wn : World) (b2 : Nat) (b7 : Nat) => (wn.cell? ⟨w.heap.size, 0, none⟩ = some (.slice A0 E.length c0) ∧ wn.cell? ⟨w.heap.size, 1, none⟩ = some (.slice A1 T.length c1) ∧ wn.cell? ⟨w.heap.size + 1, 0, none⟩ = some (.int .i64 t0) ∧ wn.cell? ⟨w.heap.size + 1, 1, none⟩ = some (.int .i64 t1) ∧ wn.cell? ⟨w.heap.size + 1, 2, none⟩ = some (.int .i64 t2) ∧ wn.cell? ⟨w.heap.size + 1, 3, none⟩ = some (.int .i64 t3)) ∧ Hid (Below w2.heap.size w2 wn) ∧ Hid ((wn.heap[b2]? = some (Obj.cells #[] 48 (0, 0)) ∧ w2.heap.size ≤ b2)) ∧ Hid ((wn.heap[b7]? = some (Obj.cells #[.int .i64 t0, .int .i64 t1, .int .i64 t2, .int .i64 t3] 48 (0, 0)) ∧ w2.heap.size ≤ b7)) ∧ Hid (b7 ≠ b2)) (fun N2_7 => ?_) ?_; rotate_left
      refine' share3 (G := _) (F := fun (wn : World) (b2 : Nat) (b10 : Nat) => (wn.cell? ⟨w.heap.size, 0, none⟩ = some (.slice A0 E.length c0) ∧ wn.cell? ⟨w.heap.size, 1, none⟩ = some (.slice A1 T.length c1) ∧ wn.cell? ⟨w.heap.size + 1, 0, none⟩ = some (.int .i64 t0) ∧ wn.cell? ⟨w.heap.size + 1, 1, none⟩ = some (.int .i64 t1) ∧ wn.cell? ⟨w.heap.size + 1, 2, none⟩ = some (.int .i64 t2) ∧ wn.cell? ⟨w.heap.size + 1, 3, none⟩ = some (.int .i64 t3)) ∧ Hid (Below w2.heap.size w2 wn) ∧ Hid ((wn.heap[b2]? = some (Obj.cells #[] 48 (0, 0)) ∧ w2.heap.size ≤ b2)) ∧ Hid ((wn.heap[b10]? = some (Obj.cells #[.slice none 0 0, .slice none 0 0] 25 (0, 0)) ∧ w2.heap.size ≤ b10))) (fun N2_10 => ?_) ?_; rotate_left
      refine' share3 (G := _) (F := fun (wn : World) (b7 : Nat) (b10 : Nat) => (wn.cell? ⟨w.heap.size, 0, none⟩ = some (.slice A0 E.length c0) ∧ wn.cell? ⟨w.heap.size, 1, none⟩ = some (.slice A1 T.length c1) ∧ wn.cell? ⟨w.heap.size + 1, 0, none⟩ = some (.int .i64 t0) ∧ wn.cell? ⟨w.heap.size + 1, 1, none⟩ = some (.int .i64 t1) ∧ wn.cell? ⟨w.heap.size + 1, 2, none⟩ = some (.int .i64 t2) ∧ wn.cell? ⟨w.heap.size + 1, 3, none⟩ = some (.int .i64 t3)) ∧ Hid (Below w2.heap.size w2 wn) ∧ Hid ((wn.heap[b7]? = some (Obj.cells #[.int .i64 t0, .int .i64 t1, .int .i64 t2, .int .i64 t3] 48 (0, 0)) ∧ w2.heap.size ≤ b7)) ∧ Hid ((wn.heap[b10]? = some (Obj.cells #[.slice none 0 0, .slice none 0 0] 25 (0, 0)) ∧ w2.heap.size ≤ b10))) (fun N7_10 => ?_) ?_; rotate_left
      refine' share2 (G := _) (F := fun (wn : World) (b2 : Nat) => (wn.cell? ⟨w.heap.size, 0, none⟩ = some (.slice A0 E.length c0) ∧ wn.cell? ⟨w.heap.size, 1, none⟩ = some (.slice A1 T.length c1) ∧ wn.cell? ⟨w.heap.size + 1, 0, none⟩ = some (.int .i64 t0) ∧ wn.cell? ⟨w.heap.size + 1, 1, none⟩ = some (.int .i64 t1) ∧ wn.cell? ⟨w.heap.size + 1, 2, none⟩ = some (.int .i64 t2) ∧ wn.cell? ⟨w.heap.size + 1, 3, none⟩ = some (.int .i64 t3)) ∧ Hid (Below w2.heap.size w2 wn) ∧ Hid ((wn.heap[b2]? = some (Obj.cells #[] 48 (0, 0)) ∧ w2.heap.size ≤ b2))) (fun N2 => ?_) ?_; rotate_left
      refine' share2 (G := _) (F := fun (wn : World) (b7 : Nat) => (wn.cell? ⟨w.heap.size, 0, none⟩ = some (.slice A0 E.length c0) ∧ wn.cell? ⟨w.heap.size, 1, none⟩ = some (.slice A1 T.length c1) ∧ wn.cell? ⟨w.heap.size + 1, 0, none⟩ = some (.int .i64 t0) ∧ wn.cell? ⟨w.heap.size + 1, 1, none⟩ = some (.int .i64 t1) ∧ wn.cell? ⟨w.heap.size + 1, 2, none⟩ = some (.int .i64 t2) ∧ wn.cell? ⟨w.heap.size + 1, 3, none⟩ = some (.int .i64 t3)) ∧ Hid (Below w2.heap.size w2 wn) ∧ Hid ((wn.heap[b7]? = some (Obj.cells #[.int .i64 t0, .int .i64 t1, .int .i64 t2, .int .i64 t3] 48 (0, 0)) ∧ w2.heap.size ≤ b7))) (fun N7 => ?_) ?_; rotate_left
      refine' share2 (G := _) (F := fun (wn : World) (b10 : Nat) => (wn.cell? ⟨w.heap.size, 0, none⟩ = some (.slice A0 E.length c0) ∧ wn.cell? ⟨w.heap.size, 1, none⟩ = some (.slice A1 T.length c1) ∧ wn.cell? ⟨w.heap.size + 1, 0, none⟩ = some (.int .i64 t0) ∧ wn.cell? ⟨w.heap.size + 1, 1, none⟩ = some (.int .i64 t1) ∧ wn.cell? ⟨w.heap.size + 1, 2, none⟩ = some (.int .i64 t2) ∧ wn.cell? ⟨w.heap.size + 1, 3, none⟩ = some (.int .i64 t3)) ∧ Hid (Below w2.heap.size w2 wn) ∧ Hid ((wn.heap[b10]? = some (Obj.cells #[.slice none 0 0, .slice none 0 0] 25 (0, 0)) ∧ w2.heap.size ≤ b10))) (fun N10 => ?_) ?_; rotate_left
      · skip
        refine wpAnyH_ready (rs := [2, 7, 10]) (by kernel_rfl) (by simp) ?_
        refine AllReadyH.cons rfl (fun K hK => ?_) (AllReadyH.cons rfl (fun K hK => ?_) (AllReadyH.cons rfl (fun K hK => ?_) AllReadyH.nil))
        · skip
          go_simp
          have hn := below_alloc HN.out (Obj.cells #[] 48)
          have hb2 := al_new wn (Obj.cells #[] 48) HN.out.size
          generalize wn.alloc (Obj.cells #[] 48) = wm at hn hb2 ⊢
          generalize wn.heap.size = b2 at hn hb2 ⊢
          refine hK.out _ _ (fixed hn HK2.out HT2.out) (fun hHeld2 => ?_)
          try simp only [Act.put, List.setIfInBounds_toArray, List.set_cons_zero, List.set_cons_succ]
          exact N2 wm b2 ⟨hHeld2, Lib.hid hn, Lib.hid hb2⟩
        · skip
          go_simp
          have hn := below_alloc HN.out (Obj.cells #[.int .i64 t0, .int .i64 t1, .int .i64 t2, .int .i64 t3] 48)
          have hb7 := al_new wn (Obj.cells #[.int .i64 t0, .int .i64 t1, .int .i64 t2, .int .i64 t3] 48) HN.out.size
          generalize wn.alloc (Obj.cells #[.int .i64 t0, .int .i64 t1, .int .i64 t2, .int .i64 t3] 48) = wm at hn hb7 ⊢
          generalize wn.heap.size = b7 at hn hb7 ⊢
          refine hK.out _ _ (fixed hn HK2.out HT2.out) (fun hHeld2 => ?_)
          try simp only [Act.put, List.setIfInBounds_toArray, List.set_cons_zero, List.set_cons_succ]
          exact N7 wm b7 ⟨hHeld2, Lib.hid hn, Lib.hid hb7⟩
        · skip
          go_simp
          have hn := below_alloc HN.out (Obj.cells #[.slice none 0 0, .slice none 0 0] 25)
          have hb10 := al_new wn (Obj.cells #[.slice none 0 0, .slice none 0 0] 25) HN.out.size
          generalize wn.alloc (Obj.cells #[.slice none 0 0, .slice none 0 0] 25) = wm at hn hb10 ⊢
          generalize wn.heap.size = b10 at hn hb10 ⊢
          refine hK.out _ _ (fixed hn HK2.out HT2.out) (fun hHeld2 => ?_)
          try simp only [Act.put, List.setIfInBounds_toArray, List.set_cons_zero, List.set_cons_succ]
          exact N10 wm b10 ⟨hHeld2, Lib.hid hn, Lib.hid hb10⟩
      · rintro wn b10 ⟨hHeld, HN, HB10⟩
        refine wpAnyH_ready (rs := [2, 7]) (by kernel_rfl) (by simp) ?_
        refine AllReadyH.cons rfl (fun K hK => ?_) (AllReadyH.cons rfl (fun K hK => ?_) AllReadyH.nil)
        · skip
          go_simp
          have hn := below_alloc HN.out (Obj.cells #[] 48)
          have hb2 := al_new wn (Obj.cells #[] 48) HN.out.size
          have hb10 := al_get (Obj.cells #[] 48) HB10.out
          generalize wn.alloc (Obj.cells #[] 48) = wm at hn hb2 hb10 ⊢
          generalize wn.heap.size = b2 at hn hb2 hb10 ⊢
          refine hK.out _ _ (fixed hn HK2.out HT2.out) (fun hHeld2 => ?_)
          try simp only [Act.put, List.setIfInBounds_toArray, List.set_cons_zero, List.set_cons_succ]
          exact N2_10 wm b2 b10 ⟨hHeld2, Lib.hid hn, Lib.hid hb2, Lib.hid hb10⟩
        · skip
          go_simp
          have hn := below_alloc HN.out (Obj.cells #[.int .i64 t0, .int .i64 t1, .int .i64 t2, .int .i64 t3] 48)
          have hb7 := al_new wn (Obj.cells #[.int .i64 t0, .int .i64 t1, .int .i64 t2, .int .i64 t3] 48) HN.out.size
          have hb10 := al_get (Obj.cells #[.int .i64 t0, .int .i64 t1, .int .i64 t2, .int .i64 t3] 48) HB10.out
          generalize wn.alloc (Obj.cells #[.int .i64 t0, .int .i64 t1, .int .i64 t2, .int .i64 t3] 48) = wm at hn hb7 hb10 ⊢
          generalize wn.heap.size = b7 at hn hb7 hb10 ⊢
          refine hK.out _ _ (fixed hn HK2.out HT2.out) (fun hHeld2 => ?_)
          try simp only [Act.put, List.setIfInBounds_toArray, List.set_cons_zero, List.set_cons_succ]
          exact N7_10 wm b7 b10 ⟨hHeld2, Lib.hid hn, Lib.hid hb7, Lib.hid hb10⟩
      · rintro wn b7 ⟨hHeld, HN, HB7⟩
        refine wpAnyH_ready (rs := [2, 10]) (by kernel_rfl) (by simp) ?_
        refine AllReadyH.cons rfl (fun K hK => ?_) (AllReadyH.cons rfl (fun K hK => ?_) AllReadyH.nil)
        · skip
          go_simp
          have hn := below_alloc HN.out (Obj.cells #[] 48)
          have hb2 := al_new wn (Obj.cells #[] 48) HN.out.size
          have hb7 := al_get (Obj.cells #[] 48) HB7.out
          have h72 := al_ne HB7.out.1
          generalize wn.alloc (Obj.cells #[] 48) = wm at hn hb2 hb7 h72 ⊢
          generalize wn.heap.size = b2 at hn hb2 hb7 h72 ⊢
          refine hK.out _ _ (fixed hn HK2.out HT2.out) (fun hHeld2 => ?_)
          try simp only [Act.put, List.setIfInBounds_toArray, List.set_cons_zero, List.set_cons_succ]
          exact N2_7 wm b2 b7 ⟨hHeld2, Lib.hid hn, Lib.hid hb2, Lib.hid hb7, Lib.hid h72⟩
        · skip
          go_simp
          have hn := below_alloc HN.out (Obj.cells #[.slice none 0 0, .slice none 0 0] 25)
          have hb10 := al_new wn (Obj.cells #[.slice none 0 0, .slice none 0 0] 25) HN.out.size
          have hb7 := al_get (Obj.cells #[.slice none 0 0, .slice none 0 0] 25) HB7.out
          generalize wn.alloc (Obj.cells #[.slice none 0 0, .slice none 0 0] 25) = wm at hn hb10 hb7 ⊢
          generalize wn.heap.size = b10 at hn hb10 hb7 ⊢
          refine hK.out _ _ (fixed hn HK2.out HT2.out) (fun hHeld2 => ?_)
          try simp only [Act.put, List.setIfInBounds_toArray, List.set_cons_zero, List.set_cons_succ]
          exact N7_10 wm b7 b10 ⟨hHeld2, Lib.hid hn, Lib.hid hb7, Lib.hid hb10⟩
      · rintro wn b2 ⟨hHeld, HN, HB2⟩
        refine wpAnyH_ready (rs := [5, 7, 10]) (by kernel_rfl) (by simp) ?_
        refine AllReadyH.cons rfl (fun K hK => ?_) (AllReadyH.cons rfl (fun K hK => ?_) (AllReadyH.cons rfl (fun K hK => ?_) AllReadyH.nil))
        · skip
          refine Kd.R_append_rows_step k48 (Rr := k48.K _) (w0 := w2) w2.heap.size (by kernel_rfl) (.tmp 17) (.tmp 19) 23 48 (.agg #[(.int .i64 0), (.int .i64 0), (.int .i64 0), (.int .i64 0)]) 32 rfl Try.underlying23 info_tie rfl (by decide) (by decide) _ [] T A1 T.length c1 (fun _ => True) (fun _ => False) (by rfl) (by rfl) (empty_R HB2.out.1 HB2.out.2) (Kd.C_below H1.out (HB2w.out.trans (HN.out.mono HB2w.out.size))) (fun _ _ h => tie_KM h) (fun _ h => h.elim) (fun _ _ => trivial) HN.out HN.out.size HL150.out ?_
          intro v6 wm hr6 hn hg6 hat6
          obtain ⟨A6, c6, rfl⟩ := Kd.R_slice hr6
          refine hK.out (Act.put _ (some 20) _) _ (fixed hn HK2.out HT2.out) (fun hHeld2 => ?_)
          try simp only [Act.put, List.setIfInBounds_toArray, List.set_cons_zero, List.set_cons_succ]
          exact N2_5 wm b2 A6 c6 ⟨hHeld2, Lib.hid hn, Lib.hid hr6⟩
        · skip
          go_simp
          have hn := below_alloc HN.out (Obj.cells #[.int .i64 t0, .int .i64 t1, .int .i64 t2, .int .i64 t3] 48)
          have hb7 := al_new wn (Obj.cells #[.int .i64 t0, .int .i64 t1, .int .i64 t2, .int .i64 t3] 48) HN.out.size
          have hb2 := al_get (Obj.cells #[.int .i64 t0, .int .i64 t1, .int .i64 t2, .int .i64 t3] 48) HB2.out
          have h72 := (al_ne HB2.out.1).symm
          generalize wn.alloc (Obj.cells #[.int .i64 t0, .int .i64 t1, .int .i64 t2, .int .i64 t3] 48) = wm at hn hb7 hb2 h72 ⊢
          generalize wn.heap.size = b7 at hn hb7 hb2 h72 ⊢
          refine hK.out _ _ (fixed hn HK2.out HT2.out) (fun hHeld2 => ?_)
          try simp only [Act.put, List.setIfInBounds_toArray, List.set_cons_zero, List.set_cons_succ]
          exact N2_7 wm b2 b7 ⟨hHeld2, Lib.hid hn, Lib.hid hb2, Lib.hid hb7, Lib.hid h72⟩
        · skip
          go_simp
          have hn := below_alloc HN.out (Obj.cells #[.slice none 0 0, .slice none 0 0] 25)
          have hb10 := al_new wn (Obj.cells #[.slice none 0 0, .slice none 0 0] 25) HN.out.size
          have hb2 := al_get (Obj.cells #[.slice none 0 0, .slice none 0 0] 25) HB2.out
          generalize wn.alloc (Obj.cells #[.slice none 0 0, .slice none 0 0] 25) = wm at hn hb10 hb2 ⊢
          generalize wn.heap.size = b10 at hn hb10 hb2 ⊢
          refine hK.out _ _ (fixed hn HK2.out HT2.out) (fun hHeld2 => ?_)
          try simp only [Act.put, List.setIfInBounds_toArray, List.set_cons_zero, List.set_cons_succ]
          exact N2_10 wm b2 b10 ⟨hHeld2, Lib.hid hn, Lib.hid hb2, Lib.hid hb10⟩
      · rintro wn b7 b10 ⟨hHeld, HN, HB7, HB10⟩
        refine wpAnyH_ready (rs := [2]) (by kernel_rfl) (by simp) ?_
        refine AllReadyH.cons rfl (fun K hK => ?_) AllReadyH.nil
        · skip
          go_simp
          have hn := below_alloc HN.out (Obj.cells #[] 48)
          have hb2 := al_new wn (Obj.cells #[] 48) HN.out.size
          have hb7 := al_get (Obj.cells #[] 48) HB7.out
          have hb10 := al_get (Obj.cells #[] 48) HB10.out
          have h72 := al_ne HB7.out.1
          generalize wn.alloc (Obj.cells #[] 48) = wm at hn hb2 hb7 hb10 h72 ⊢
          generalize wn.heap.size = b2 at hn hb2 hb7 hb10 h72 ⊢
          refine hK.out _ _ (fixed hn HK2.out HT2.out) (fun hHeld2 => ?_)
          try simp only [Act.put, List.setIfInBounds_toArray, List.set_cons_zero, List.set_cons_succ]
          exact N2_7_10 wm b2 b7 b10 ⟨hHeld2, Lib.hid hn, Lib.hid hb2, Lib.hid hb7, Lib.hid hb10, Lib.hid h72⟩
      · rintro wn b2 b10 ⟨hHeld, HN, HB2, HB10⟩
        refine wpAnyH_ready (rs := [5, 7]) (by kernel_rfl) (by simp) ?_
        refine AllReadyH.cons rfl (fun K hK => ?_) (AllReadyH.cons rfl (fun K hK => ?_) AllReadyH.nil)
        · skip
          refine Kd.R_append_rows_step k48 (Rr := k48.K _) (w0 := w2) w2.heap.size (by kernel_rfl) (.tmp 17) (.tmp 19) 23 48 (.agg #[(.int .i64 0), (.int .i64 0), (.int .i64 0), (.int .i64 0)]) 32 rfl Try.underlying23 info_tie rfl (by decide) (by decide) _ [] T A1 T.length c1 (fun _ => True) (fun _ => False) (by rfl) (by rfl) (empty_R HB2.out.1 HB2.out.2) (Kd.C_below H1.out (HB2w.out.trans (HN.out.mono HB2w.out.size))) (fun _ _ h => tie_KM h) (fun _ h => h.elim) (fun _ _ => trivial) HN.out HN.out.size HL150.out ?_
          intro v6 wm hr6 hn hg6 hat6
          obtain ⟨A6, c6, rfl⟩ := Kd.R_slice hr6
          refine hK.out (Act.put _ (some 20) _) _ (fixed hn HK2.out HT2.out) (fun hHeld2 => ?_)
          try simp only [Act.put, List.setIfInBounds_toArray, List.set_cons_zero, List.set_cons_succ]
          exact N2_5_10 wm b2 b10 A6 c6 ⟨hHeld2, Lib.hid hn, Lib.hid (keep25 (empty_R HB2.out.1 HB2.out.2) hg6 HB10.out), Lib.hid hr6⟩
        · skip
          go_simp
          have hn := below_alloc HN.out (Obj.cells #[.int .i64 t0, .int .i64 t1, .int .i64 t2, .int .i64 t3] 48)
          have hb7 := al_new wn (Obj.cells #[.int .i64 t0, .int .i64 t1, .int .i64 t2, .int .i64 t3] 48) HN.out.size
          have hb2 := al_get (Obj.cells #[.int .i64 t0, .int .i64 t1, .int .i64 t2, .int .i64 t3] 48) HB2.out
          have hb10 := al_get (Obj.cells #[.int .i64 t0, .int .i64 t1, .int .i64 t2, .int .i64 t3] 48) HB10.out
          have h72 := (al_ne HB2.out.1).symm
          generalize wn.alloc (Obj.cells #[.int .i64 t0, .int .i64 t1, .int .i64 t2, .int .i64 t3] 48) = wm at hn hb7 hb2 hb10 h72 ⊢
          generalize wn.heap.size = b7 at hn hb7 hb2 hb10 h72 ⊢
          refine hK.out _ _ (fixed hn HK2.out HT2.out) (fun hHeld2 => ?_)
          try simp only [Act.put, List.setIfInBounds_toArray, List.set_cons_zero, List.set_cons_succ]
          exact N2_7_10 wm b2 b7 b10 ⟨hHeld2, Lib.hid hn, Lib.hid hb2, Lib.hid hb7, Lib.hid hb10, Lib.hid h72⟩
      · rintro wn b2 b7 ⟨hHeld, HN, HB2, HB7, H72⟩
        refine wpAnyH_ready (rs := [5, 10]) (by kernel_rfl) (by simp) ?_
        refine AllReadyH.cons rfl (fun K hK => ?_) (AllReadyH.cons rfl (fun K hK => ?_) AllReadyH.nil)
        · skip
          refine Kd.R_append_rows_step k48 (Rr := k48.K _) (w0 := w2) w2.heap.size (by kernel_rfl) (.tmp 17) (.tmp 19) 23 48 (.agg #[(.int .i64 0), (.int .i64 0), (.int .i64 0), (.int .i64 0)]) 32 rfl Try.underlying23 info_tie rfl (by decide) (by decide) _ [] T A1 T.length c1 (fun _ => True) (fun _ => False) (by rfl) (by rfl) (empty_R HB2.out.1 HB2.out.2) (Kd.C_below H1.out (HB2w.out.trans (HN.out.mono HB2w.out.size))) (fun _ _ h => tie_KM h) (fun _ h => h.elim) (fun _ _ => trivial) HN.out HN.out.size HL150.out ?_
          intro v6 wm hr6 hn hg6 hat6
          obtain ⟨A6, c6, rfl⟩ := Kd.R_slice hr6
          refine hK.out (Act.put _ (some 20) _) _ (fixed hn HK2.out HT2.out) (fun hHeld2 => ?_)
          try simp only [Act.put, List.setIfInBounds_toArray, List.set_cons_zero, List.set_cons_succ]
          exact N2_5_7 wm b2 b7 A6 c6 ⟨hHeld2, Lib.hid hn, Lib.hid (and_keep7 hg6 H72.out HB7.out), Lib.hid hr6⟩
        · skip
          go_simp
          have hn := below_alloc HN.out (Obj.cells #[.slice none 0 0, .slice none 0 0] 25)
          have hb10 := al_new wn (Obj.cells #[.slice none 0 0, .slice none 0 0] 25) HN.out.size
          have hb2 := al_get (Obj.cells #[.slice none 0 0, .slice none 0 0] 25) HB2.out
          have hb7 := al_get (Obj.cells #[.slice none 0 0, .slice none 0 0] 25) HB7.out
          have h72 := H72.out
          generalize wn.alloc (Obj.cells #[.slice none 0 0, .slice none 0 0] 25) = wm at hn hb10 hb2 hb7 h72 ⊢
          generalize wn.heap.size = b10 at hn hb10 hb2 hb7 h72 ⊢
          refine hK.out _ _ (fixed hn HK2.out HT2.out) (fun hHeld2 => ?_)
          try simp only [Act.put, List.setIfInBounds_toArray, List.set_cons_zero, List.set_cons_succ]
          exact N2_7_10 wm b2 b7 b10 ⟨hHeld2, Lib.hid hn, Lib.hid hb2, Lib.hid hb7, Lib.hid hb10, Lib.hid h72⟩
      · rintro wn b2 A6 c6 ⟨hHeld, HN, HR6⟩
        refine wpAnyH_ready (rs := [7, 10]) (by kernel_rfl) (by simp) ?_
        refine AllReadyH.cons rfl (fun K hK => ?_) (AllReadyH.cons rfl (fun K hK => ?_) AllReadyH.nil)
        · skip
          go_simp
          have hn := below_alloc HN.out (Obj.cells #[.int .i64 t0, .int .i64 t1, .int .i64 t2, .int .i64 t3] 48)
          have hb7 := al_new wn (Obj.cells #[.int .i64 t0, .int .i64 t1, .int .i64 t2, .int .i64 t3] 48) HN.out.size
          have hr6 := Kd.R_below HR6.out (below_alloc (Below.refl _ wn) (Obj.cells #[.int .i64 t0, .int .i64 t1, .int .i64 t2, .int .i64 t3] 48))
          generalize wn.alloc (Obj.cells #[.int .i64 t0, .int .i64 t1, .int .i64 t2, .int .i64 t3] 48) = wm at hn hb7 hr6 ⊢
          generalize wn.heap.size = b7 at hn hb7 hr6 ⊢
          refine hK.out _ _ (fixed hn HK2.out HT2.out) (fun hHeld2 => ?_)
          try simp only [Act.put, List.setIfInBounds_toArray, List.set_cons_zero, List.set_cons_succ]
          exact N2_5_7 wm b2 b7 A6 c6 ⟨hHeld2, Lib.hid hn, Lib.hid hb7, Lib.hid hr6⟩
        · skip
          go_simp
          have hn := below_alloc HN.out (Obj.cells #[.slice none 0 0, .slice none 0 0] 25)
          have hb10 := al_new wn (Obj.cells #[.slice none 0 0, .slice none 0 0] 25) HN.out.size
          have hr6 := Kd.R_below HR6.out (below_alloc (Below.refl _ wn) (Obj.cells #[.slice none 0 0, .slice none 0 0] 25))
          generalize wn.alloc (Obj.cells #[.slice none 0 0, .slice none 0 0] 25) = wm at hn hb10 hr6 ⊢
          generalize wn.heap.size = b10 at hn hb10 hr6 ⊢
          refine hK.out _ _ (fixed hn HK2.out HT2.out) (fun hHeld2 => ?_)
          try simp only [Act.put, List.setIfInBounds_toArray, List.set_cons_zero, List.set_cons_succ]
          exact N2_5_10 wm b2 b10 A6 c6 ⟨hHeld2, Lib.hid hn, Lib.hid hb10, Lib.hid hr6⟩
      · rintro wn b2 b7 b10 ⟨hHeld, HN, HB2, HB7, HB10, H72⟩
        refine wpAnyH_ready (rs := [5]) (by kernel_rfl) (by simp) ?_
        refine AllReadyH.cons rfl (fun K hK => ?_) AllReadyH.nil
        · skip
          refine Kd.R_append_rows_step k48 (Rr := k48.K _) (w0 := w2) w2.heap.size (by kernel_rfl) (.tmp 17) (.tmp 19) 23 48 (.agg #[(.int .i64 0), (.int .i64 0), (.int .i64 0), (.int .i64 0)]) 32 rfl Try.underlying23 info_tie rfl (by decide) (by decide) _ [] T A1 T.length c1 (fun _ => True) (fun _ => False) (by rfl) (by rfl) (empty_R HB2.out.1 HB2.out.2) (Kd.C_below H1.out (HB2w.out.trans (HN.out.mono HB2w.out.size))) (fun _ _ h => tie_KM h) (fun _ h => h.elim) (fun _ _ => trivial) HN.out HN.out.size HL150.out ?_
          intro v6 wm hr6 hn hg6 hat6
          obtain ⟨A6, c6, rfl⟩ := Kd.R_slice hr6
          refine hK.out (Act.put _ (some 20) _) _ (fixed hn HK2.out HT2.out) (fun hHeld2 => ?_)
          try simp only [Act.put, List.setIfInBounds_toArray, List.set_cons_zero, List.set_cons_succ]
          exact N2_5_7_10 wm b2 b7 b10 A6 c6 ⟨hHeld2, Lib.hid hn, Lib.hid (and_keep7 hg6 H72.out HB7.out), Lib.hid (keep25 (empty_R HB2.out.1 HB2.out.2) hg6 HB10.out), Lib.hid hr6⟩
      · rintro wn b2 b10 A6 c6 ⟨hHeld, HN, HB10, HR6⟩
        refine wpAnyH_ready (rs := [7]) (by kernel_rfl) (by simp) ?_
        refine AllReadyH.cons rfl (fun K hK => ?_) AllReadyH.nil
        · skip
          go_simp
          have hn := below_alloc HN.out (Obj.cells #[.int .i64 t0, .int .i64 t1, .int .i64 t2, .int .i64 t3] 48)
          have hb7 := al_new wn (Obj.cells #[.int .i64 t0, .int .i64 t1, .int .i64 t2, .int .i64 t3] 48) HN.out.size
          have hb10 := al_get (Obj.cells #[.int .i64 t0, .int .i64 t1, .int .i64 t2, .int .i64 t3] 48) HB10.out
          have hr6 := Kd.R_below HR6.out (below_alloc (Below.refl _ wn) (Obj.cells #[.int .i64 t0, .int .i64 t1, .int .i64 t2, .int .i64 t3] 48))
          generalize wn.alloc (Obj.cells #[.int .i64 t0, .int .i64 t1, .int .i64 t2, .int .i64 t3] 48) = wm at hn hb7 hb10 hr6 ⊢
          generalize wn.heap.size = b7 at hn hb7 hb10 hr6 ⊢
          refine hK.out _ _ (fixed hn HK2.out HT2.out) (fun hHeld2 => ?_)
          try simp only [Act.put, List.setIfInBounds_toArray, List.set_cons_zero, List.set_cons_succ]
          exact N2_5_7_10 wm b2 b7 b10 A6 c6 ⟨hHeld2, Lib.hid hn, Lib.hid hb7, Lib.hid hb10, Lib.hid hr6⟩
      · rintro wn b2 b7 A6 c6 ⟨hHeld, HN, HB7, HR6⟩
        refine wpAnyH_ready (rs := [8, 10]) (by kernel_rfl) (by simp) ?_
        refine AllReadyH.cons rfl (fun K hK => ?_) (AllReadyH.cons rfl (fun K hK => ?_) AllReadyH.nil)
        · skip
          refine Kd.R_append_rows_step k48 (Rr := k48.K _) (w0 := w2) w2.heap.size (by kernel_rfl) (.tmp 20) (.tmp 22) 23 48 (.agg #[(.int .i64 0), (.int .i64 0), (.int .i64 0), (.int .i64 0)]) 32 rfl Try.underlying23 info_tie rfl (by decide) (by decide) (.slice A6 T.length c6) T [⟨t0, t1, t2, t3⟩] _ 1 1 (fun _ => True) (fun _ => False) (by rfl) (by rfl) HR6.out (one_C HB7.out.1) (fun _ _ h => tie_KM h) (fun _ h => h.elim) (fun _ _ => trivial) HN.out HN.out.size HL151.out ?_
          intro v8 wm hr8 hn hg8 hat8
          obtain ⟨A8, c8, rfl⟩ := Kd.R_slice hr8
          rw [len_one] at hr8 ⊢
          refine hK.out (Act.put _ (some 23) _) _ (fixed hn HK2.out HT2.out) (fun hHeld2 => ?_)
          try simp only [Act.put, List.setIfInBounds_toArray, List.set_cons_zero, List.set_cons_succ]
          clear hHeld
          have hHeld := hHeld2
          (refine wpAnyH_take2 (i := 9) (d := some 24) (v := ?_) rfl rfl (by kernel_rfl) (by kernel_rfl) (by kernel_rfl) (fun _ _ _ h => h) (Or.inl ⟨by rfl, ?_⟩) (by assumption) ?_; rotate_left; focus (intro w_ hSw_; (try dsimp only at hSw_); go_simp; try with_reducible rfl); try simp only [Act.put, List.setIfInBounds_toArray, List.set_cons_zero, List.set_cons_succ])
          exact N2_5_7_8 wm b2 b7 A6 c6 A8 c8 ⟨hHeld2, Lib.hid hn, Lib.hid hr8⟩
        · skip
          go_simp
          have hn := below_alloc HN.out (Obj.cells #[.slice none 0 0, .slice none 0 0] 25)
          have hb10 := al_new wn (Obj.cells #[.slice none 0 0, .slice none 0 0] 25) HN.out.size
          have hb7 := al_get (Obj.cells #[.slice none 0 0, .slice none 0 0] 25) HB7.out
          have hr6 := Kd.R_below HR6.out (below_alloc (Below.refl _ wn) (Obj.cells #[.slice none 0 0, .slice none 0 0] 25))
          generalize wn.alloc (Obj.cells #[.slice none 0 0, .slice none 0 0] 25) = wm at hn hb10 hb7 hr6 ⊢
          generalize wn.heap.size = b10 at hn hb10 hb7 hr6 ⊢
          refine hK.out _ _ (fixed hn HK2.out HT2.out) (fun hHeld2 => ?_)
          try simp only [Act.put, List.setIfInBounds_toArray, List.set_cons_zero, List.set_cons_succ]
          exact N2_5_7_10 wm b2 b7 b10 A6 c6 ⟨hHeld2, Lib.hid hn, Lib.hid hb7, Lib.hid hb10, Lib.hid hr6⟩
      · rintro wn b2 b7 b10 A6 c6 ⟨hHeld, HN, HB7, HB10, HR6⟩
        refine wpAnyH_ready (rs := [8]) (by kernel_rfl) (by simp) ?_
        refine AllReadyH.cons rfl (fun K hK => ?_) AllReadyH.nil
        · skip
          refine Kd.R_append_rows_step k48 (Rr := k48.K _) (w0 := w2) w2.heap.size (by kernel_rfl) (.tmp 20) (.tmp 22) 23 48 (.agg #[(.int .i64 0), (.int .i64 0), (.int .i64 0), (.int .i64 0)]) 32 rfl Try.underlying23 info_tie rfl (by decide) (by decide) (.slice A6 T.length c6) T [⟨t0, t1, t2, t3⟩] _ 1 1 (fun _ => True) (fun _ => False) (by rfl) (by rfl) HR6.out (one_C HB7.out.1) (fun _ _ h => tie_KM h) (fun _ h => h.elim) (fun _ _ => trivial) HN.out HN.out.size HL151.out ?_
          intro v8 wm hr8 hn hg8 hat8
          obtain ⟨A8, c8, rfl⟩ := Kd.R_slice hr8
          rw [len_one] at hr8 ⊢
          refine hK.out (Act.put _ (some 23) _) _ (fixed hn HK2.out HT2.out) (fun hHeld2 => ?_)
          try simp only [Act.put, List.setIfInBounds_toArray, List.set_cons_zero, List.set_cons_succ]
          clear hHeld
          have hHeld := hHeld2
          (refine wpAnyH_take2 (i := 9) (d := some 24) (v := ?_) rfl rfl (by kernel_rfl) (by kernel_rfl) (by kernel_rfl) (fun _ _ _ h => h) (Or.inl ⟨by rfl, ?_⟩) (by assumption) ?_; rotate_left; focus (intro w_ hSw_; (try dsimp only at hSw_); go_simp; try with_reducible rfl); try simp only [Act.put, List.setIfInBounds_toArray, List.set_cons_zero, List.set_cons_succ])
          exact N2_5_7_8_10 wm b2 b7 b10 A6 c6 A8 c8 ⟨hHeld2, Lib.hid hn, Lib.hid (keep25 HR6.out hg8 HB10.out), Lib.hid hr8⟩
      · rintro wn b2 b7 A6 c6 A8 c8 ⟨hHeld, HN, HR8⟩
        refine wpAnyH_ready (rs := [10]) (by kernel_rfl) (by simp) ?_
        refine AllReadyH.cons rfl (fun K hK => ?_) AllReadyH.nil
        · skip
          go_simp
          have hn := below_alloc HN.out (Obj.cells #[.slice none 0 0, .slice none 0 0] 25)
          have hb10 := al_new wn (Obj.cells #[.slice none 0 0, .slice none 0 0] 25) HN.out.size
          have hr8 := Kd.R_below HR8.out (below_alloc (Below.refl _ wn) (Obj.cells #[.slice none 0 0, .slice none 0 0] 25))
          generalize wn.alloc (Obj.cells #[.slice none 0 0, .slice none 0 0] 25) = wm at hn hb10 hr8 ⊢
          generalize wn.heap.size = b10 at hn hb10 hr8 ⊢
          refine hK.out _ _ (fixed hn HK2.out HT2.out) (fun hHeld2 => ?_)
          try simp only [Act.put, List.setIfInBounds_toArray, List.set_cons_zero, List.set_cons_succ]
          exact N2_5_7_8_10 wm b2 b7 b10 A6 c6 A8 c8 ⟨hHeld2, Lib.hid hn, Lib.hid hb10, Lib.hid hr8⟩
      · rintro wn b2 b7 b10 A6 c6 A8 c8 ⟨hHeld, HN, HB10, HR8⟩
        refine wpAnyH_ready (rs := [11]) (by kernel_rfl) (by simp) ?_
        refine AllReadyH.cons rfl (fun K hK => ?_) AllReadyH.nil
        · skip
          have zz0 := blkc HB10.out.1 0
          change _ = some (Value.slice none 0 0) at zz0
          have ff0 := thaw25 HB10.out.1 0
          have zz1 := blkc HB10.out.1 1
          change _ = some (Value.slice none 0 0) at zz1
          have ff1 := thaw25 HB10.out.1 1
          go_simp
          refine hK.out _ _ (fixed (below_set (below_set HN.out HB10.out.2) HB10.out.2) HK2.out HT2.out) (fun hHeld2 => ?_)
          refine wpAnyH_done (by kernel_rfl) ?_ _
          go_wp2_with fail
          go_meet
          exact ⟨b10, rfl, Lib.hid (fin_g HB2w.out HN.out HK2.out HB10.out HR8.out)⟩
    case rest =>
      obtain ⟨gb, rfl, HG⟩ := hcut
      obtain ⟨A2, c2, hg1, hg2, hg3⟩ := HG.out.g
      obtain ⟨G, hGe⟩ : ∃ G, G = T ++ [(⟨t0, t1, t2, t3⟩ : S48)] := ⟨_, rfl⟩
      have HGE := Lib.hid hGe
      rw [← hGe] at hg1 hg2 hg3
      have hGl : G.length ≤ 151 := by rw [hGe, len_one]; omega
      have HIN : Hid (FIn w gb A0 A1 A2 E.length c0 T.length c1 G.length c2 G wc) := ⟨HG.out.on, HG.out.bf, hg1, hg3⟩
      have HG2 := Lib.hid hg2
      clear hGe hg1 hg2 hg3 HG HT2 HK2 HB2 d0 d1 d2 d3 b0 b1 HL150 HL151
      have b0 := blkc HIN.out.bf 0
      have b1 := blkc HIN.out.bf 1
      change _ = some (Value.slice A0 E.length c0) at b0
      change _ = some (Value.slice A1 T.length c1) at b1
      go_wp2_with fail
      obtain ⟨M, hM⟩ : ∃ M, M = pick E.length (mattersB E T) := ⟨_, rfl⟩
      have hev := (matters_ev E T (by omega) (by omega)).at
      rw [← hM] at hev
      obtain ⟨kf, hkf⟩ := hev
      refine (needs_Matters.calls kf A0 c0 E A1 c1 T M _ (Kd.C_below H0.out HIN.out.on) hc0 (Kd.C_below H1.out HIN.out.on) hc1 hkf).mono ?_
      rintro e waM ⟨vaM, rfl, hra, hba⟩
      have HFM := Lib.hid (HIN.out.keep hba)
      obtain ⟨AM, cM, rfl, _, hCa⟩ := Kd.R_reads hra
      obtain ⟨MG, hMG⟩ : ∃ MG, MG = pick E.length (mattersB E G) := ⟨_, rfl⟩
      have hsub : ∀ x, x ∈ M → x ∈ MG := by rw [hM, hMG, HGE.out]; exact (pick_more (fun _ => matters_more _)).1
      have HSUBM := Lib.hid hsub
      have hlG : MG.length ≤ E.length := by rw [hMG]; exact pick_length _ _
      have hlF : M.length ≤ E.length := by rw [hM]; exact pick_length _ _
      have HLGM := Lib.hid hlG
      have hev := (matters_ev E G (by omega) (by omega)).at
      rw [← hMG] at hev
      obtain ⟨kg, hkg⟩ := hev
      have HTGM := Lib.hid (fun W (hW : Below w.heap.size w W) (hC : Kd.C k48 W A2 G.length G) => needs_Matters.calls kg A0 c0 E A2 c2 G MG W (Kd.C_below H0.out hW) hc0 hC HG2.out hkg)
      clear hkf hkg
      obtain ⟨pM, hpM⟩ : ∃ p, p = M.length := ⟨_, rfl⟩
      have HPM := Lib.hid hpM
      rw [← hpM] at hCa hlF ⊢
      have HCM := Lib.hid hCa
      clear hra hba hsub hlG hCa hM hMG hpM b0 b1
      go_wp2_with fail
      go_loopw [8, 28] (fun _ i wr => ∃ k : Nat, k ≤ pM ∧ i = .int .i64 (k : Int) ∧ Hid (FIn w gb A0 A1 A2 E.length c0 T.length c1 G.length c2 G wr) ∧ Hid (Kd.C (Kd.int .i64) wr AM pM M)) (fun _ i _ => pM - (intOf i).toNat)
      case atStart => exact ⟨0, Nat.zero_le _, rfl, HFM, HCM⟩
      case round =>
        clear HFM HCM
        obtain ⟨kM, hkM, rfl, HF, HC⟩ := hrel
        by_cases hk : kM < pM
        · have hc1k : (kM : Int) < (pM : Int) := by omega
          have hcl := HC.out
          obtain ⟨ad, rfl, a0⟩ := Kd.at_int hcl (kM : Int) (by omega) (by omega)
          rw [Int.toNat_natCast] at a0
          have hmem : rd M (kM : Int) ∈ M := List.mem_of_getElem? (get_lt (by have := HPM.out; omega))
          have HX := Lib.hid (HSUBM.out _ hmem)
          generalize rd M (kM : Int) = x at *
          have hwk : IntKind.i64.wrap ((kM : Int) + 1) = (kM : Int) + 1 := IntWalk.i64_in _ (by omega)
          have g0 := blkc HF.out.bg 0
          have g1 := blkc HF.out.bg 1
          change _ = some (Value.slice A0 E.length c0) at g0
          change _ = some (Value.slice A2 G.length c2) at g1
          clear hcl hmem
          go_wp2_with fail
          refine (HTGM.out _ HF.out.on HF.out.cg).mono ?_
          rintro e wb ⟨vb, rfl, hrb, hbb⟩
          have HFb := Lib.hid (HF.out.keep hbb)
          have HCb := Lib.hid (Kd.C_below HC.out hbb)
          obtain ⟨Ab, cb, rfl, _, hCb⟩ := Kd.R_reads hrb
          have HCG := Lib.hid hCb
          have hlb : MG.length < 4398046511104 := by have := HLGM.out; omega
          have HLB := Lib.hid hlb
          clear hrb hbb hCb hlb HF HC g0 g1
          go_wp2_with fail
          refine (lhas_of Ab cb MG x wb HCG.out HX.out HLB.out).mono ?_
          rintro e wd ⟨rfl, hbd⟩
          have HFd := Lib.hid (HFb.out.keep hbd)
          have HCd := Lib.hid (Kd.C_below HCb.out hbd)
          clear hbd HFb HCb HCG
          go_wp2_with fail
          go_roundw
          case rel => exact ⟨kM + 1, by omega, rfl, HFd, HCd⟩
          case measure => simp [intOf]; omega
        · obtain rfl : kM = pM := by omega
          have hc1k : ¬ ((kM : Int) < (kM : Int)) := by omega
          have b0 := blkc HF.out.bf 0
          have b1 := blkc HF.out.bf 1
          change _ = some (Value.slice A0 E.length c0) at b0
          change _ = some (Value.slice A1 T.length c1) at b1
          go_wp2_with fail
          obtain ⟨C, hC⟩ : ∃ C, C = pick E.length (calledB E T) := ⟨_, rfl⟩
          refine (needs_Called.calls A0 c0 E A1 c1 T C _ (Kd.C_below H0.out HF.out.on) hc0 (Kd.C_below H1.out HF.out.on) hc1 (by rw [hC]; exact needs_Called.tells E T (by omega) (by omega))).mono ?_
          rintro e waC ⟨vaC, rfl, hra, hba⟩
          have HFC := Lib.hid (HF.out.keep hba)
          obtain ⟨AC, cC, rfl, _, hCa⟩ := Kd.R_reads hra
          obtain ⟨CG, hCG⟩ : ∃ CG, CG = pick E.length (calledB E G) := ⟨_, rfl⟩
          have hsub : ∀ x, x ∈ C → x ∈ CG := by rw [hC, hCG, HGE.out]; exact (pick_more (fun _ => called_more _)).1
          have HSUBC := Lib.hid hsub
          have hlG : CG.length ≤ E.length := by rw [hCG]; exact pick_length _ _
          have hlF : C.length ≤ E.length := by rw [hC]; exact pick_length _ _
          have HLGC := Lib.hid hlG
          have HTGC := Lib.hid (fun W (hW : Below w.heap.size w W) (hC : Kd.C k48 W A2 G.length G) => needs_Called.calls A0 c0 E A2 c2 G CG W (Kd.C_below H0.out hW) hc0 hC HG2.out (by rw [hCG]; exact needs_Called.tells E G (by omega) (by omega)))
          obtain ⟨pC, hpC⟩ : ∃ p, p = C.length := ⟨_, rfl⟩
          have HPC := Lib.hid hpC
          rw [← hpC] at hCa hlF ⊢
          have HCC := Lib.hid hCa
          clear hra hba hsub hlG hCa hC hCG hpC b0 b1
          go_wp2_with fail
          go_loopw [10, 42] (fun _ i wr => ∃ k : Nat, k ≤ pC ∧ i = .int .i64 (k : Int) ∧ Hid (FIn w gb A0 A1 A2 E.length c0 T.length c1 G.length c2 G wr) ∧ Hid (Kd.C (Kd.int .i64) wr AC pC C)) (fun _ i _ => pC - (intOf i).toNat)
          case atStart => exact ⟨0, Nat.zero_le _, rfl, HFC, HCC⟩
          case round =>
            clear HFC HCC
            obtain ⟨kC, hkC, rfl, HF, HC⟩ := hrel
            by_cases hk : kC < pC
            · have hc1k : (kC : Int) < (pC : Int) := by omega
              have hcl := HC.out
              obtain ⟨ad, rfl, a0⟩ := Kd.at_int hcl (kC : Int) (by omega) (by omega)
              rw [Int.toNat_natCast] at a0
              have hmem : rd C (kC : Int) ∈ C := List.mem_of_getElem? (get_lt (by have := HPC.out; omega))
              have HX := Lib.hid (HSUBC.out _ hmem)
              generalize rd C (kC : Int) = x at *
              have hwk : IntKind.i64.wrap ((kC : Int) + 1) = (kC : Int) + 1 := IntWalk.i64_in _ (by omega)
              have g0 := blkc HF.out.bg 0
              have g1 := blkc HF.out.bg 1
              change _ = some (Value.slice A0 E.length c0) at g0
              change _ = some (Value.slice A2 G.length c2) at g1
              clear hcl hmem
              go_wp2_with fail
              refine (HTGC.out _ HF.out.on HF.out.cg).mono ?_
              rintro e wb ⟨vb, rfl, hrb, hbb⟩
              have HFb := Lib.hid (HF.out.keep hbb)
              have HCb := Lib.hid (Kd.C_below HC.out hbb)
              obtain ⟨Ab, cb, rfl, _, hCb⟩ := Kd.R_reads hrb
              have HCG := Lib.hid hCb
              have hlb : CG.length < 4398046511104 := by have := HLGC.out; omega
              have HLB := Lib.hid hlb
              clear hrb hbb hCb hlb HF HC g0 g1
              go_wp2_with fail
              refine (lhas_of Ab cb CG x wb HCG.out HX.out HLB.out).mono ?_
              rintro e wd ⟨rfl, hbd⟩
              have HFd := Lib.hid (HFb.out.keep hbd)
              have HCd := Lib.hid (Kd.C_below HCb.out hbd)
              clear hbd HFb HCb HCG
              go_wp2_with fail
              go_roundw
              case rel => exact ⟨kC + 1, by omega, rfl, HFd, HCd⟩
              case measure => simp [intOf]; omega
            · obtain rfl : kC = pC := by omega
              have hc1k : ¬ ((kC : Int) < (kC : Int)) := by omega
              obtain ⟨XF, hXF⟩ : ∃ XF, XF = pick E.length (outB E T) := ⟨_, rfl⟩
              obtain ⟨XG, hXG⟩ : ∃ XG, XG = pick E.length (outB E G) := ⟨_, rfl⟩
              have hle : XF.length ≤ XG.length := by rw [hXF, hXG, HGE.out]; exact (pick_more (fun _ => out_more _)).2
              have HTF := Lib.hid (fun W (hW : Below w.heap.size w W) => needs_Excluded.calls A0 c0 E A1 c1 T XF W (Kd.C_below H0.out hW) hc0 (Kd.C_below H1.out hW) hc1 (by rw [hXF]; exact needs_Excluded.tells E T (by omega) (by omega)))
              have HTX := Lib.hid (fun W (hW : Below w.heap.size w W) (hC : Kd.C k48 W A2 G.length G) => needs_Excluded.calls A0 c0 E A2 c2 G XG W (Kd.C_below H0.out hW) hc0 hC HG2.out (by rw [hXG]; exact needs_Excluded.tells E G (by omega) (by omega)))
              have hle2 : (XF.length : Int) ≤ (XG.length : Int) := by omega
              have HFw := Lib.hid (HF.out.keep (below_drew (Below.refl wr.heap.size wr)))
              have b0 := blkc HF.out.bf 0
              have b1 := blkc HF.out.bf 1
              change _ = some (Value.slice A0 E.length c0) at b0
              change _ = some (Value.slice A1 T.length c1) at b1
              have g0 := blkc HF.out.bg 0
              have g1 := blkc HF.out.bg 1
              change _ = some (Value.slice A0 E.length c0) at g0
              change _ = some (Value.slice A2 G.length c2) at g1
              clear hXF hXG hle
              go_upto_region 19 with (fail)
              go_region_held3 (fun w' => w'.cell? ⟨w.heap.size, 0, none⟩ = some (.slice A0 E.length c0) ∧ w'.cell? ⟨w.heap.size, 1, none⟩ = some (.slice A1 T.length c1) ∧ w'.cell? ⟨gb, 0, none⟩ = some (.slice A0 E.length c0) ∧ w'.cell? ⟨gb, 1, none⟩ = some (.slice A2 G.length c2))
                (go_keep)
                (first
                  | (go_at_call 26; refine (HTX.out _ HFw.out.on HFw.out.cg).mono ?_; rintro e we ⟨ve, rfl, hre, hbe⟩; obtain ⟨Ae, ce, rfl, _, _⟩ := Kd.R_reads hre; have HFe := Lib.hid (HFw.out.keep hbe); have x0 := blkc HFe.out.bf 0; have x1 := blkc HFe.out.bf 1; have y0 := blkc HFe.out.bg 0; have y1 := blkc HFe.out.bg 1; change _ = some (Value.slice A0 E.length c0) at x0; change _ = some (Value.slice A1 T.length c1) at x1; change _ = some (Value.slice A0 E.length c0) at y0; change _ = some (Value.slice A2 G.length c2) at y1; clear hre hbe)
                  | (go_at_call 26; refine (HTF.out _ HFe.out.on).mono ?_; rintro e wg ⟨vg, rfl, hrg, hbg⟩; obtain ⟨Ag, cg, rfl, _, _⟩ := Kd.R_reads hrg; have HFg := Lib.hid (HFe.out.keep hbg); have x0 := blkc HFg.out.bf 0; have x1 := blkc HFg.out.bf 1; have y0 := blkc HFg.out.bg 0; have y1 := blkc HFg.out.bg 1; change _ = some (Value.slice A0 E.length c0) at x0; change _ = some (Value.slice A1 T.length c1) at x1; change _ = some (Value.slice A0 E.length c0) at y0; change _ = some (Value.slice A2 G.length c2) at y1; clear hrg hbg)
                  | fail)
              go_wp2_with fail
              go_ret
              exact ⟨by simp [hle2], HFg.out.on⟩
end Go.Proofs.Ytofgaeiihclokaa.P
