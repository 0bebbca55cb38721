/- JournalDoes' walk. No conditions beyond those typed. -/
import Derived.Test.YtngcdkbnljoodaaJouDo
namespace Go.Proofs.Ytngcdkbnljoodaa
set_option linter.unusedVariables false
set_option linter.unusedSimpArgs false
open Go.RowKit Go.Proofs.YtngcdkbnljoodaaW.PrintWords

/-- An act's values. -/
structure ActV where
  k : Int
  n : Int
  m : Int
  t : Bs
/-- A row of acts, to be read. -/
def RowA (w : World) (v : Value) (l : List ActV) : Prop := ∃ a cap, v = .slice a l.length cap ∧ ∀ i x, l[i]? = some x → ∃ p : Addr, a = some p ∧ w.cell? (p.add (i * 4)) = some (.int .i64 x.k) ∧ w.cell? ⟨(p.add (i * 4)).block, (p.add (i * 4)).off + 1, none⟩ = some (.int .i64 x.n) ∧ w.cell? ⟨(p.add (i * 4)).block, (p.add (i * 4)).off + 2, none⟩ = some (.int .i64 x.m) ∧ w.cell? ⟨(p.add (i * 4)).block, (p.add (i * 4)).off + 3, none⟩ = some (strV x.t)
theorem cell_stay {w w' : World} {p : Addr} {x : Value} (h : w.cell? p = some x) (ho : Only [] w w') : w'.cell? p = some x := by
  have hlt : p.block < w.heap.size := by
    rcases Nat.lt_or_ge p.block w.heap.size with h2 | h2
    · exact h2
    · unfold World.cell? at h
      rw [Array.getElem?_eq_none h2] at h
      simp at h
  exact (World.cell?_of_block (ho.block _ hlt (by simp))).trans h
theorem first_A {w : World} {p b n : Nat} (h1 : 1 ≤ n) (h2 : n ≤ 256) (h : StoreIs w p b (St.new n)) :
    Calls Try.prog 10 #[.pointer (some ⟨p, 0, none⟩)] w fun e w' => ∃ (j : Nat) (rb : Option Nat) (a : Option Addr) (m c : Nat), e = .returned (.tuple #[.pointer (some ⟨j, 0, none⟩), .slice a m c, .int .i64 0]) ∧ StoreIs w' p b (openJ n (St.new n) []).s ∧ JnIs w' j rb p 0 n [] 0 false ∧ Only [p, b] w w' ∧ w.heap.size ≤ j ∧ ∀ x, rb = some x → w.heap.size ≤ x := by
  have hh : (St.new n).Has 0 n := ⟨h1, by show 0 + n ≤ n; omega⟩
  have hsc := scan_new n h1 h2
  refine (open_of h).mono ?_
  rintro e w' ⟨ho, (⟨hB, _⟩ | ⟨a, c, l', t', ha, hc, _, hsc', hs', hr⟩)⟩
  · have := isB_has hh
    rw [show (0 : Int) = ((0 : Nat) : Int) from rfl] at hB
    rw [show ((St.new n).n : Int) = ((n : Nat) : Int) from rfl, this] at hB
    cases hB
  · obtain rfl : a = 0 := by omega
    obtain rfl : c = n := by have : ((St.new n).n : Int) = (n : Int) := rfl; omega
    obtain ⟨rfl, _⟩ := IsScan.uniq hsc hsc'
    obtain ⟨P, hP, hT, hor, hok⟩ := open_ok h.wf hh hsc
    obtain ⟨hq, hfu⟩ := hok rfl rfl
    rcases hr with ⟨hn, _⟩ | ⟨_, j', rb', v, hj, hrb, rfl, hjn, hown, hne⟩
    · exact absurd hq hn
    · obtain ⟨va, vn, vc, rfl⟩ := own_slice hown
      exact ⟨j', rb', va, vn, vc, rfl, hs', hjn, ho, hj, hrb⟩
theorem first_B {w0 w3 w : World} {p b q g n j : Nat} {rb : Option Nat} (h1 : 1 ≤ n) (h2 : n ≤ 256) (h : StR w q g (St.new n)) (hs : StoreIs w p b (openJ n (St.new n) []).s) (hj : JnIs w j rb p 0 n [] 0 false)
    (hrb : ∀ x, rb = some x → g < x ∧ w0.heap.size ≤ x) (hge : w0.heap.size ≤ p ∧ w0.heap.size ≤ b ∧ w0.heap.size ≤ q ∧ w0.heap.size ≤ g ∧ w0.heap.size ≤ j) (ho0 : Only [] w0 w) :
    Calls Try.prog 11 #[.pointer (some ⟨q, 0, none⟩)] w fun e w' => ∃ (jr : Nat) (a : Option Addr) (m c : Nat), e = .returned (.tuple #[.pointer (some ⟨jr, 0, none⟩), .slice a m c, .int .i64 0]) ∧ ∃ rr, Jd w0 w' p b q g j jr rb rr n (openJ n (St.new n) []) (openJ n (St.new n) []) := by
  have hh : (St.new n).Has 0 n := ⟨h1, by show 0 + n ≤ n; omega⟩
  have hsc := scan_new n h1 h2
  have hnn := openS_n (St.new_wf h1 h2) 0 n (frames []).length
  refine (ROpen_of h).mono ?_
  rintro e w' ⟨ho, (⟨hB, _⟩ | ⟨a, c, l', t', ha, hc, _, hsc', hs', hr⟩)⟩
  · have := isB_has hh
    rw [show (0 : Int) = ((0 : Nat) : Int) from rfl] at hB
    rw [show ((St.new n).n : Int) = ((n : Nat) : Int) from rfl, this] at hB
    cases hB
  · obtain rfl : a = 0 := by omega
    obtain rfl : c = n := by have : ((St.new n).n : Int) = (n : Int) := rfl; omega
    obtain ⟨rfl, _⟩ := IsScan.uniq hsc hsc'
    obtain ⟨P, hP, hT, hor, hok⟩ := open_ok h.wf hh hsc
    obtain ⟨hq, hfu⟩ := hok rfl rfl
    rcases hr with ⟨hn, _⟩ | ⟨_, j', rr', v, hj', hrr, rfl, hjn, hown⟩
    · exact absurd hq hn
    · obtain ⟨va, vn, vc, rfl⟩ := own_slice hown
      have tG := h.typeG
      have tQ := h.typeQ
      have hsz := ho0.size
      have off : ∀ x t, (∃ cs f, w.heap[x]? = some (.cells cs t f)) → t ≠ 69 → x ≠ g → x ∉ [q, g] := fun x t tx h1 h2 hx => by
        simp at hx
        rcases hx with e | e
        · exact ty_ne tx tQ h1 e
        · exact h2 e
      refine ⟨j', va, vn, vc, rfl, rr', ?_⟩
      exact { an := hnn, bn := hnn, af := Nat.zero_le _, bf := Nat.zero_le _, al := Nat.zero_le _, bl := Nat.zero_le _, sr := hs', jx := hjn
              st := hs.only ho (off _ _ hs.typeP (by decide) (ty_ne hs.typeP tG (by decide))) (off _ _ hs.typeB (by decide) (ty_ne hs.typeB tG (by decide)))
              jn := hj.only ho (off _ _ hj.typeJ (by decide) (ty_ne hj.typeJ tG (by decide))) (fun x hx => off _ _ (hj.typeR hx) (by decide) (by have := hrb x hx; omega))
              d1 := fun x hx => ⟨by have := hrb x hx; omega, fun e => by have := hrr x e; have := ty_lt (hj.typeR hx); omega⟩
              d2 := fun x hx => by have := hrr x hx; have := ty_lt tG; omega
              gs := by omega
              gb := fun x hx => (hrb x hx).2
              gr := fun x hx => by have := hrr x hx; omega
              on := ho0.trans ho (by simp; omega) }
theorem write_calm {s : St} (hd : s.down = false) (hf : s.fuse = -1) (i : Int) (d : Bs) : (s.write i d).1.down = false ∧ (s.write i d).1.fuse = -1 := by
  unfold St.write
  by_cases hm : s.may i = 0
  · rw [if_neg (by rw [hm]; decide)]
    by_cases hl : d.length ≠ 32
    · rw [if_pos hl]; exact ⟨hd, hf⟩
    · rw [if_neg hl, if_neg (by rw [hf]; decide)]
      exact ⟨hd, by show max (s.fuse - 1) (-1) = -1; rw [hf]; rfl⟩
  · rw [if_pos hm]; exact ⟨hd, hf⟩
def actC (k n m : Int) (t : ByteArray) : Array Value := #[.int .i64 k, .int .i64 n, .int .i64 m, .string t]
/-- Both journals alike, in the loop. -/
def Both (w0 w : World) (p b q g j jr n : Nat) : Prop := ∃ rb rr A, Jd w0 w p b q g j jr rb rr n A A
/-- Both stores alike, up, and no fuse burns. -/
def BothUp (w0 w : World) (p b q g j jr n : Nat) : Prop := ∃ rb rr A, Jd w0 w p b q g j jr rb rr n A A ∧ A.s.down = false ∧ A.s.fuse = -1
set_option maxHeartbeats 4000000 in
set_option maxRecDepth 100000 in
theorem JournalDoes_walk (a1 : Int) (v : Value) (l : List ActV) (w : World) (hv : RowA w v l) (hl : l.length ≤ 140737488351232) (hx : ∀ x ∈ l, x.t.length ≤ 9223372036854775807 ∧ x.n ≤ 9223372036854775807) :
    Calls Try.prog 3 #[.int .i64 a1, v] w fun e w' => e = .returned (.bool true) ∧ Below w.heap.size w w' := by
  obtain ⟨a, ca, rfl, hc⟩ := hv
  obtain ⟨L, hL⟩ : ∃ L, L = l.length := ⟨_, rfl⟩
  rw [← hL] at hl ⊢
  have HL := Lib.hid hL
  have HC := Lib.hid hc
  have HX := Lib.hid hx
  clear hL hc hx
  by_cases hgood : 1 ≤ a1 ∧ a1 ≤ 256
  · obtain ⟨n, rfl⟩ : ∃ n : Nat, a1 = (n : Int) := ⟨a1.toNat, by omega⟩
    have hn1 : 1 ≤ n := by omega
    have hn2 : n ≤ 256 := by omega
    clear hgood
    go_enter Try.func3, Try.ntmps3
    go_wp2_with fail
    refine (awake_of w).mono ?_
    rintro e w1 ⟨rfl, ho1⟩
    have HO1 := Lib.hid ho1
    clear ho1
    have HN : Hid (Calls Try.prog 8 #[.int .i64 (n : Int)] w1 fun e w' => e = .returned (.tuple #[.pointer (some ⟨w1.heap.size + 1, 0, none⟩), .int .i64 0]) ∧ StoreIs w' (w1.heap.size + 1) w1.heap.size (St.new n) ∧ Only [] w1 w') := new_up n hn1 hn2 w1
    obtain ⟨p, hp⟩ : ∃ p, p = w1.heap.size + 1 := ⟨_, rfl⟩
    obtain ⟨b, hb⟩ : ∃ b, b = w1.heap.size := ⟨_, rfl⟩
    rw [← hp, ← hb] at HN
    have HPB : Hid (w.heap.size ≤ p ∧ w.heap.size ≤ b) := by have := HO1.out.size; exact ⟨by omega, by omega⟩
    clear hp hb
    go_wp2_with fail
    refine (HN.out).mono ?_
    rintro e w2 ⟨rfl, hs2, ho2⟩
    have HS2 := Lib.hid hs2
    have HO2 : Hid (Only [] w w2) := HO1.out.tr ho2
    clear hs2 ho2 HN HO1
    go_wp2_with fail
    refine (RNew_ok n hn1 hn2 w2).mono ?_
    rintro e w3 ⟨rfl, g, hg, hs3, ho3⟩
    have HS3 := Lib.hid (HS2.out.only ho3 (by simp) (by simp))
    have HR3 := Lib.hid hs3
    have HO3 : Hid (Only [] w w3) := HO2.out.tr ho3
    obtain ⟨q, hq⟩ : ∃ q, q = w2.heap.size := ⟨_, rfl⟩
    rw [← hq] at HR3 ⊢
    have HQG : Hid (w.heap.size ≤ q ∧ w.heap.size ≤ g) := by have := HO2.out.size; exact ⟨by omega, by omega⟩
    clear hg hs3 ho3 HS2 HO2 hq
    go_wp2_with fail
    have HGL := Lib.hid HR3.out.lt
    refine (first_A hn1 hn2 HS3.out).mono ?_
    rintro e w4 ⟨j, rb, va, vm, vc, rfl, hs4, hj4, ho4, hjl, hrb4⟩
    have HR4 := Lib.hid (HR3.out.only ho4 (by simp; exact ⟨ty_ne HR3.out.typeQ HS3.out.typeP (by decide), ty_ne HR3.out.typeQ HS3.out.typeB (by decide)⟩) (by simp; exact ⟨ty_ne HR3.out.typeG HS3.out.typeP (by decide), ty_ne HR3.out.typeG HS3.out.typeB (by decide)⟩))
    have HO4 : Hid (Only [] w w4) := HO3.out.trans ho4 (by simp; exact HPB.out)
    have HS4 := Lib.hid hs4
    have HJ4 := Lib.hid hj4
    have HB4 : Hid ((∀ x, rb = some x → g < x ∧ w.heap.size ≤ x) ∧ w.heap.size ≤ j) := by
      have h1 := HGL.out
      have h2 := HO3.out.size
      exact ⟨fun x hx => by have := hrb4 x hx; omega, by omega⟩
    clear hs4 hj4 ho4 hjl hrb4 HS3 HR3 HO3 HGL
    go_wp2_with fail
    refine (first_B (w3 := w) hn1 hn2 HR4.out HS4.out HJ4.out HB4.out.1 ⟨HPB.out.1, HPB.out.2, HQG.out.1, HQG.out.2, HB4.out.2⟩ HO4.out).mono ?_
    rintro e w5 ⟨jr, ra, rm, rc, rfl, hd5⟩
    have HI : Hid (Both w w5 p b q g j jr n) := by
      obtain ⟨rr, h⟩ := hd5
      exact ⟨_, rr, _, h⟩
    clear hd5 HR4 HS4 HJ4 HB4 HO4
    go_wp2_with fail
    go_loopw [9, 12, 15] (fun jv rv i wq => ∃ (k j jr : Nat), jv = .pointer (some ⟨j, 0, none⟩) ∧ rv = .pointer (some ⟨jr, 0, none⟩) ∧ i = .int .i64 (k : Int) ∧ k ≤ L ∧ Hid (Both w wq p b q g j jr n)) (fun _ _ i _ => L - (intOf i).toNat)
    case atStart => exact ⟨0, j, jr, rfl, rfl, rfl, Nat.zero_le _, HI⟩
    case round =>
      clear HI
      obtain ⟨k, j, jr, rfl, rfl, rfl, hk, HI⟩ := hrel
      by_cases hkL : k < L
      · by_cases hk40 : k < 40
        · obtain ⟨x, hx⟩ : ∃ x, l[k]? = some x := ⟨_, List.getElem?_eq_getElem (by have := HL.out; omega)⟩
          obtain ⟨ad, rfl, b0, b1, b2, b3⟩ := HC.out k x hx
          have hon : Only [] w wr := by obtain ⟨_, _, _, h⟩ := HI.out; exact h.on
          have b0 := cell_stay b0 hon
          have b1 := cell_stay b1 hon
          have b2 := cell_stay b2 hon
          have b3 := cell_stay b3 hon
          unfold strV at b3
          obtain ⟨xt, xn⟩ := HX.out x (List.mem_of_getElem? hx)
          obtain ⟨xk, xn', xm, xtt⟩ := x
          have hc0 : (0 : Int) ≤ (k : Int) := by omega
          have hc1 : ((k : Int) < (L : Int)) := by omega
          have hc2 : ((k : Int) < 40) := by omega
          have hwr : IntKind.i64.wrap ((k : Int) + 1) = (k : Int) + 1 := IntWalk.i64_in _ (by omega)
          dsimp only at b0 b1 b2 b3 xt xn
          obtain ⟨TX, hTX⟩ : ∃ TX, TX = mkS xtt := ⟨_, rfl⟩
          rw [← hTX] at b3
          have hTs : TX.size = xtt.length := by rw [hTX, size_mkS]
          have HTX := Lib.hid hTX
          clear hx hon hTX
          by_cases hlong : 500 < TX.size
          · have HON : Hid (Only [] w wr) := by obtain ⟨_, _, _, h⟩ := HI.out; exact h.on
            go_wp2_with fail
            go_ret
            exact ⟨rfl, (HON.out.alloc _).below (Nat.le_refl _) (by simp)⟩
          · have hlong2 : ¬ (500 : Int) < (TX.size : Int) := by omega
            go_upto_block 2 with (fail)
            have HXB := Lib.hid (blk_new wr (.cells (actC xk xn' xm TX) 39))
            have HI6 : Hid (Both w (wr.alloc (.cells (actC xk xn' xm TX) 39)) p b q g j jr n) := by
              obtain ⟨rb, rr, A, h⟩ := HI.out
              exact ⟨rb, rr, A, h.keep ((Only.refl [] wr).alloc _)⟩
            unfold actC at HXB HI6
            generalize wr.alloc (.cells #[.int .i64 xk, .int .i64 xn', .int .i64 xm, .string TX] 39) = w6 at *
            generalize wr.heap.size = xb at *
            clear b0 b1 b2 b3 HI
            go_cut [9, 12] (fun jv rv wc => ∃ j jr, jv = .pointer (some ⟨j, 0, none⟩) ∧ rv = .pointer (some ⟨jr, 0, none⟩) ∧ Hid (Both w wc p b q g j jr n))
            case first =>
              have c0 : w6.cell? ⟨xb, 0, none⟩ = some (.int .i64 xk) := blk_cell HXB.out 0
              have c1 : w6.cell? ⟨xb, 1, none⟩ = some (.int .i64 xn') := blk_cell HXB.out 1
              have c2 : w6.cell? ⟨xb, 2, none⟩ = some (.int .i64 xm) := blk_cell HXB.out 2
              have c3 : w6.cell? ⟨xb, 3, none⟩ = some (.string TX) := blk_cell HXB.out 3
              by_cases h01 : xk = 0 ∨ xk = 1
              · obtain ⟨rb, rr, A, hd⟩ := HI6.out
                obtain ⟨r, hr⟩ : ∃ r, r = A.app n TX.data.toList := ⟨_, rfl⟩
                have hap := jd_appA hd TX
                rw [← hr] at hap
                have HAP := Lib.hid hap
                have HR := Lib.hid hr
                clear hap hr hd c0 c1 c2
                have hk01 : (xk == 0) = true ∨ ((xk == 0) = false ∧ (xk == 1) = true) := by
                  rcases h01 with rfl | rfl
                  · exact Or.inl rfl
                  · exact Or.inr ⟨rfl, rfl⟩
                have c0 : w6.cell? ⟨xb, 0, none⟩ = some (.int .i64 xk) := blk_cell HXB.out 0
                clear h01
                rcases hk01 with n0 | ⟨n0, n1⟩
                all_goals go_wp2_with fail
                all_goals go_region_held3 (fun w' => w'.cell? ⟨xb, 3, none⟩ = some (.string TX))
                  (go_keep)
                  (first
                    | (go_at_call 12; refine (HAP.out _ ((Only.refl [] _).drew)).mono ?_; rintro e w7 ⟨rfl, hk7, rb7, hd7⟩; have hbp := jd_appB hd7 TX; rw [← HR.out] at hbp; have HBP := Lib.hid hbp; clear hbp; have d3 : w7.cell? ⟨xb, 3, none⟩ = some (.string TX) := blk_cell (hk7 _ _ _ HXB.out) 3; have HK7 := Lib.hid hk7; clear hk7 hd7)
                    | (go_at_call 13; refine (HBP.out _ (Only.refl [] _)).mono ?_; rintro e w8 ⟨rfl, hk8, rr8, hd8⟩; have d3 : w8.cell? ⟨xb, 3, none⟩ = some (.string TX) := blk_cell (hk8 _ _ _ (HK7.out _ _ _ HXB.out)) 3; have HD8 := Lib.hid hd8; clear hk8 hd8))
                all_goals have HB8 : Hid (Both w w8 p b q g j jr n) := ⟨_, _, _, HD8.out⟩
                all_goals clear HD8 HBP HAP HR HK7
                all_goals go_wp2_with fail
                all_goals go_meet
                all_goals exact ⟨j, jr, rfl, rfl, HB8⟩
              · have n0 : (xk == 0) = false := beq_eq_false_iff_ne.mpr (fun e => h01 (Or.inl e))
                have n1 : (xk == 1) = false := beq_eq_false_iff_ne.mpr (fun e => h01 (Or.inr e))
                by_cases h2 : xk = 2
                · have n2 : (xk == 2) = true := beq_iff_eq.mpr h2
                  clear h01 h2
                  go_wp2_with fail
                  obtain ⟨rb, rr, A, hd⟩ := HI6.out
                  refine (jd_fuseA hd xn' xm xn).mono ?_
                  rintro e w7 ⟨rfl, hk7, hd7⟩
                  have HD7 := Lib.hid hd7
                  have hb7 := hk7 _ _ _ HXB.out
                  have d1 : w7.cell? ⟨xb, 1, none⟩ = some (.int .i64 xn') := blk_cell hb7 1
                  have d2 : w7.cell? ⟨xb, 2, none⟩ = some (.int .i64 xm) := blk_cell hb7 2
                  clear hd hd7 hk7 hb7 c0 c1 c2 c3
                  go_wp2_with fail
                  refine (jd_fuseB HD7.out xn' xm xn).mono ?_
                  rintro e w8 ⟨rfl, hk8, hd8⟩
                  have HB8 : Hid (Both w w8 p b q g j jr n) := ⟨_, _, _, hd8⟩
                  clear hk8 hd8
                  go_wp2_with fail
                  go_meet
                  case rel => exact ⟨j, jr, rfl, rfl, HB8⟩
                · have n2 : (xk == 2) = false := beq_eq_false_iff_ne.mpr h2
                  by_cases h34 : xk = 3 ∨ xk = 4
                  · have hk34 : ((xk == 3) = true ∧ (xk == 4) = false) ∨ ((xk == 3) = false ∧ (xk == 4) = true) := by
                      rcases h34 with rfl | rfl
                      · exact Or.inl ⟨rfl, rfl⟩
                      · exact Or.inr ⟨rfl, rfl⟩
                    clear h34 h01 h2
                    rcases hk34 with ⟨n3, n4⟩ | ⟨n3, n4⟩
                    · go_wp2_with fail
                      obtain ⟨rb, rr, A, hd⟩ := HI6.out
                      refine (jd_upA hd).mono ?_
                      rintro e w7 ⟨rfl, hk7, hd7⟩
                      have HD7 := Lib.hid hd7
                      have HK7 := Lib.hid hk7
                      clear hd hd7 hk7 c0 c1 c2 c3
                      go_wp2_with fail
                      refine (jd_upB HD7.out).mono ?_
                      rintro e w8 ⟨rfl, hk8, hd8⟩
                      have HU8 : Hid (BothUp w w8 p b q g j jr n) := ⟨_, _, _, hd8, rfl, rfl⟩
                      have d0 : w8.cell? ⟨xb, 0, none⟩ = some (.int .i64 xk) := blk_cell (hk8 _ _ _ (HK7.out _ _ _ HXB.out)) 0
                      clear hk8 hd8 HK7
                      go_wp2_with fail
                      obtain ⟨rb2, rr2, A2, hd, hdn, hfu⟩ := HU8.out
                      obtain ⟨l2, t2, hsc⟩ := isScan_exists _ (partB A2.s 0 n) (Nat.le_refl _)
                      have HSC := Lib.hid hsc
                      have HCALM : Hid (A2.s.down = false ∧ A2.s.fuse = -1) := ⟨hdn, hfu⟩
                      refine (jd_openA hd hdn hfu hsc).mono ?_
                      rintro e w9 ⟨j9, v9, rfl, hk9, hrow9, rb9, hd9⟩
                      have HD9 := Lib.hid hd9
                      have HROW9 := Lib.hid hrow9
                      have HL2 : Hid (l2.length ≤ 1000000) := by
                        have h1 := scan_fits hd.st.wf hd.hasA hsc
                        have h2 := frames_count l2
                        have h3 := hd.n256
                        show _ ≤ _
                        omega
                      clear hd hdn hfu hsc hk9 hrow9 hd9 d0
                      go_wp2_with fail
                      refine (jd_openB HD9.out HCALM.out.1 HCALM.out.2 HSC.out).mono ?_
                      rintro e w10 ⟨j10, v10, rfl, hk10, ho10, hrow10, rr10, hd10⟩
                      have HR9 := Lib.hid (HROW9.out w10 ho10)
                      have HR10 := Lib.hid hrow10
                      have HB10 : Hid (Both w w10 p b q g j9 j10 n) := ⟨_, _, _, hd10⟩
                      clear hk10 ho10 hrow10 hd10 HROW9 HD9
                      go_wp2_with fail
                      refine (Same_eq HR9.out HR10.out HL2.out).mono ?_
                      rintro e w11 ⟨rfl, ho11⟩
                      have HB11 : Hid (Both w w11 p b q g j9 j10 n) := by
                        obtain ⟨rb, rr, A, h⟩ := HB10.out
                        exact ⟨rb, rr, A, h.keep ho11⟩
                      clear ho11
                      go_wp2_with fail
                      go_meet
                      case rel => exact ⟨j9, j10, rfl, rfl, HB11⟩
                    · go_wp2_with fail
                      obtain ⟨rb, rr, A, hd⟩ := HI6.out
                      refine (jd_upA hd).mono ?_
                      rintro e w7 ⟨rfl, hk7, hd7⟩
                      have HD7 := Lib.hid hd7
                      have HK7 := Lib.hid hk7
                      clear hd hd7 hk7 c0 c1 c2 c3
                      go_wp2_with fail
                      refine (jd_upB HD7.out).mono ?_
                      rintro e w8 ⟨rfl, hk8, hd8⟩
                      have HU8 : Hid (BothUp w w8 p b q g j jr n) := ⟨_, _, _, hd8, rfl, rfl⟩
                      have hb8 := hk8 _ _ _ (HK7.out _ _ _ HXB.out)
                      have d0 : w8.cell? ⟨xb, 0, none⟩ = some (.int .i64 xk) := blk_cell hb8 0
                      have d1 : w8.cell? ⟨xb, 1, none⟩ = some (.int .i64 xn') := blk_cell hb8 1
                      have d3 : w8.cell? ⟨xb, 3, none⟩ = some (.string TX) := blk_cell hb8 3
                      have HX8 := Lib.hid hb8
                      obtain ⟨rb2, rr2, A2, hd, hdn, hfu⟩ := HU8.out
                      have HWA := Lib.hid (jd_writeA hd xn' (mkS (blkS TX.data.toList)))
                      have HCALM := Lib.hid (write_calm hdn hfu xn' (mkS (blkS TX.data.toList)).data.toList)
                      have HBK := Lib.hid (block_of TX (by omega))
                      generalize mkS (blkS TX.data.toList) = BK at *
                      clear hk8 hd8 HK7 hd hdn hfu hb8
                      go_wp2_with fail
                      go_region_held3 (fun w' => w'.cell? ⟨xb, 1, none⟩ = some (.int .i64 xn') ∧ w'.cell? ⟨xb, 3, none⟩ = some (.string TX))
                        (go_keep)
                        (first
                          | (go_at_call 19; refine (HBK.out _).mono ?_; rintro e _ ⟨rfl, rfl⟩)
                          | (go_at_call 18; refine (HWA.out _ ((Only.refl [] _).drew)).mono ?_; rintro e wa ⟨ca, rfl, hka, hda⟩; have hba := hka _ _ _ HX8.out; have HXA := Lib.hid hba; have f1 : wa.cell? ⟨xb, 1, none⟩ = some (.int .i64 xn') := blk_cell hba 1; have f3 : wa.cell? ⟨xb, 3, none⟩ = some (.string TX) := blk_cell hba 3; have HDA := Lib.hid hda; clear hka hda hba))
                      have HWB := Lib.hid (jd_writeB HDA.out xn' BK)
                      clear d0 d1 d3 HWA HU8
                      go_wp2_with fail
                      go_region_held3 (fun w' => w'.cell? ⟨xb, 1, none⟩ = some (.int .i64 xn') ∧ w'.cell? ⟨xb, 3, none⟩ = some (.string TX))
                        (go_keep)
                        (first
                          | (go_at_call 19; refine (HBK.out _).mono ?_; rintro e _ ⟨rfl, rfl⟩)
                          | (go_at_call 20; refine (HWB.out _ ((Only.refl [] _).drew)).mono ?_; rintro e wb ⟨cb, rfl, hkb, hdb⟩; have hbb := hkb _ _ _ HXA.out; have g1 : wb.cell? ⟨xb, 1, none⟩ = some (.int .i64 xn') := blk_cell hbb 1; have g3 : wb.cell? ⟨xb, 3, none⟩ = some (.string TX) := blk_cell hbb 3; have HDB := Lib.hid hdb; clear hkb hdb hbb))
                      have HU8 : Hid (BothUp w wb p b q g j jr n) := ⟨_, _, _, HDB.out, HCALM.out⟩
                      clear HCALM HDB HDA HWB A2 f1 f3 g1 g3
                      go_wp2_with fail
                      obtain ⟨rb2, rr2, A2, hd, hdn, hfu⟩ := HU8.out
                      obtain ⟨l2, t2, hsc⟩ := isScan_exists _ (partB A2.s 0 n) (Nat.le_refl _)
                      have HSC := Lib.hid hsc
                      have HCALM : Hid (A2.s.down = false ∧ A2.s.fuse = -1) := ⟨hdn, hfu⟩
                      refine (jd_openA hd hdn hfu hsc).mono ?_
                      rintro e w9 ⟨j9, v9, rfl, hk9, hrow9, rb9, hd9⟩
                      have HD9 := Lib.hid hd9
                      have HROW9 := Lib.hid hrow9
                      have HL2 : Hid (l2.length ≤ 1000000) := by
                        have h1 := scan_fits hd.st.wf hd.hasA hsc
                        have h2 := frames_count l2
                        have h3 := hd.n256
                        show _ ≤ _
                        omega
                      clear hd hdn hfu hsc hk9 hrow9 hd9
                      go_wp2_with fail
                      refine (jd_openB HD9.out HCALM.out.1 HCALM.out.2 HSC.out).mono ?_
                      rintro e w10 ⟨j10, v10, rfl, hk10, ho10, hrow10, rr10, hd10⟩
                      have HR9 := Lib.hid (HROW9.out w10 ho10)
                      have HR10 := Lib.hid hrow10
                      have HB10 : Hid (Both w w10 p b q g j9 j10 n) := ⟨_, _, _, hd10⟩
                      clear hk10 ho10 hrow10 hd10 HROW9 HD9
                      go_wp2_with fail
                      refine (Same_eq HR9.out HR10.out HL2.out).mono ?_
                      rintro e w11 ⟨rfl, ho11⟩
                      have HB11 : Hid (Both w w11 p b q g j9 j10 n) := by
                        obtain ⟨rb, rr, A, h⟩ := HB10.out
                        exact ⟨rb, rr, A, h.keep ho11⟩
                      clear ho11
                      go_wp2_with fail
                      go_meet
                      case rel => exact ⟨j9, j10, rfl, rfl, HB11⟩
                  · have n3 : (xk == 3) = false := beq_eq_false_iff_ne.mpr (fun e => h34 (Or.inl e))
                    have n4 : (xk == 4) = false := beq_eq_false_iff_ne.mpr (fun e => h34 (Or.inr e))
                    clear h01 h2 h34
                    go_wp2_with fail
                    go_meet
                    case rel => exact ⟨j, jr, rfl, rfl, HI6⟩
            case rest =>
              obtain ⟨j, jr, rfl, rfl, HB⟩ := hcut
              obtain ⟨rb, rr, A, hd⟩ := HB.out
              have HD := Lib.hid hd
              have HBA := Lib.hid (jd_bytesA hd)
              have HBB := Lib.hid (jd_bytesB hd)
              have hXs : (mkS A.s.bs).size ≤ 10000 := by rw [size_mkS, hd.st.wf.len]; have := hd.st.wf.hi; omega
              have HXL : Hid ((mkS A.s.bs).data.toList = A.s.bs) := list_mkS _
              have hal : A.l.length ≤ 1000000 := by have := hd.al; have := hd.af; have := hd.n256; omega
              have HSB := Lib.hid (fun (W : World) (x y : Value) (hx : RowS W x A.l) (hy : RowS W y A.l) => Same_eq hx hy hal)
              generalize hX : mkS A.s.bs = X at *
              clear hd hal HXB HI6 HB hX
              go_wp2_with fail
              refine (HBA.out _ (Only.refl [] _)).mono ?_
              rintro e w7 ⟨rfl, ho7⟩
              have HO7 := Lib.hid ho7
              clear ho7
              go_wp2_with fail
              refine (HBB.out _ HO7.out).mono ?_
              rintro e w8 ⟨rfl, ho8⟩
              have HO8 := Lib.hid ho8
              clear ho8
              go_wp2_with fail
              refine (HBB.out _ HO8.out).mono ?_
              rintro e w9 ⟨rfl, ho9⟩
              have HO9 := Lib.hid ho9
              clear ho9
              go_wp2_with fail
              refine (RScan_of X (by omega) w9).mono ?_
              rintro e w10 ⟨v10, l10, t10, rfl, hsc10, hown10, ho10, hnz10⟩
              rw [HXL.out] at hsc10
              have HO10 := Lib.hid (HO9.out.tr ho10)
              have hd10 := HD.out.keep HO10.out
              have HD10 := Lib.hid hd10
              have HRC := Lib.hid (jd_records hd10 hsc10)
              have HRM := Lib.hid (jd_room hd10)
              have HRR := Lib.hid (jd_rroom hd10)
              have HJR := Lib.hid (jd_jrec hd10)
              obtain ⟨ra, rm, rc, c3, hrow⟩ := jd_row hd10
              have HROW := Lib.hid hrow
              obtain ⟨R, hR⟩ : ∃ R : Int, R = 32 * (n : Int) - (A.fin : Int) := ⟨_, rfl⟩
              rw [← hR] at HRM HRR
              have hl10 : l10.length ≤ 1000000 := by
                have h1 := frames_count l10
                have h2 := congrArg List.length hsc10.eq
                have h3 := HD.out.st.wf.len
                have h4 := HD.out.st.wf.hi
                rw [List.length_append] at h2
                omega
              have HSA := Lib.hid (fun (W : World) (x y : Value) (hx : RowS W x l10) (hy : RowS W y l10) => Same_eq hx hy hl10)
              have HV10 := Lib.hid (RowS.of_own hown10)
              clear hsc10 hown10 ho10 hnz10 hl10 HBA HBB HO7 HO8 HO9 HO10 hd10 hrow hR
              go_wp2_with fail
              go_region_held3 (fun w' => w'.cell? ⟨jr, 3, none⟩ = some (.slice ra rm rc))
                (go_keep)
                (first
                  | (go_at_call 25; refine (HRC.out _ ((Only.refl [] _).drew)).mono ?_; rintro e w11 ⟨v11, rfl, ho11, hr11⟩; have HO11 := Lib.hid ho11; have HR11 := Lib.hid hr11; have f3 := cell_stay c3 ho11; clear ho11 hr11)
                  | (go_at_call 26; refine (HJR.out _ HO12.out).mono ?_; rintro e w13 ⟨v13, rfl, ho13, hr13⟩; have HO13 := Lib.hid ho13; have HR13 := Lib.hid hr13; have f3 := cell_stay c3 ho13; clear ho13 hr13)
                  | (go_at_call 27; refine (HRM.out _ HO14.out).mono ?_; rintro e w15 ⟨rfl, ho15⟩; have HO15 := Lib.hid ho15; have f3 := cell_stay c3 ho15; clear ho15)
                  | (go_at_call 28; refine (HRR.out _ HO15.out).mono ?_; rintro e w16 ⟨rfl, ho16⟩; have HO16 := Lib.hid ho16; have f3 := cell_stay c3 ho16; clear ho16)
                  | (go_at_call 21; refine (HSB.out _ _ _ HR13.out (HROW.out.keep HO13.out)).mono ?_; rintro e w14 ⟨rfl, ho14⟩; have HO14 := Lib.hid (HO13.out.tr ho14); have f3 := cell_stay c3 HO14.out; clear ho14)
                  | (go_at_call 21; refine (HSA.out _ _ _ HR11.out (HV10.out.keep HO11.out)).mono ?_; rintro e w12 ⟨rfl, ho12⟩; have HO12 := Lib.hid (HO11.out.tr ho12); have f3 := cell_stay c3 HO12.out; clear ho12))
              have HB16 : Hid (Both w w16 p b q g j jr n) := ⟨_, _, _, HD10.out.keep HO16.out⟩
              clear HRC HRM HRR HJR HROW HSA HSB HV10 HD10 HD HO11 HO12 HO13 HO14 HO15 HO16 HR11 HR13
              go_wp2_with fail
              go_roundw
              case rel => exact ⟨k + 1, j, jr, rfl, rfl, rfl, by omega, HB16⟩
              case measure => simp [intOf]; omega
        · have hc2 : ¬ ((k : Int) < 40) := by omega
          have hc1 : ((k : Int) < (L : Int)) := by omega
          have HON : Hid (Only [] w wr) := by obtain ⟨_, _, _, h⟩ := HI.out; exact h.on
          go_wp2_with fail
          go_ret
          exact ⟨rfl, HON.out.below (Nat.le_refl _) (by simp)⟩
      · have hc1 : ¬ ((k : Int) < (L : Int)) := by omega
        have HON : Hid (Only [] w wr) := by obtain ⟨_, _, _, h⟩ := HI.out; exact h.on
        go_wp2_with fail
        go_ret
        exact ⟨rfl, HON.out.below (Nat.le_refl _) (by simp)⟩
  · have hb : a1 < 1 ∨ 256 < a1 := by omega
    go_enter Try.func3, Try.ntmps3
    go_wp2_with fail
    refine (awake_of w).mono ?_
    rintro e w1 ⟨rfl, ho1⟩
    have HO1 := Lib.hid ho1
    clear ho1
    go_wp2_with fail
    refine (new_of a1 w1).mono ?_
    rintro e w2 ⟨hb2, (⟨_, rfl⟩ | ⟨h, _⟩)⟩
    · have HO2 := Lib.hid (HO1.out.tr (Only.of_below hb2))
      clear hb2
      go_wp2_with fail
      refine (RNew_bad a1 hb w2).mono ?_
      rintro e _ ⟨rfl, rfl⟩
      go_wp2_with fail
      go_ret
      exact ⟨rfl, HO2.out.below (Nat.le_refl _) (by simp)⟩
    · exact absurd h hgood
end Go.Proofs.Ytngcdkbnljoodaa
