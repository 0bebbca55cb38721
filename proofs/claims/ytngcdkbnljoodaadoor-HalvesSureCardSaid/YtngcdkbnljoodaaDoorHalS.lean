/- HalvesSure's walk. No conditions beyond the variables that strconv reads, and the bounds typed. -/
import Derived.Test.YtngcdkbnljoodaaDoorHalR
namespace Go.Proofs.YtngcdkbnljoodaaDoor
set_option linter.unusedVariables false
set_option linter.unusedSimpArgs false
open Go.RowKit Go.Proofs.YtngcdkbnljoodaaDoorW.PrintWords

theorem cell_stay {w w' : World} {p : Addr} {x : Value} (h : w.cell? p = some x) (ho : Only [] w w') : w'.cell? p = some x := by
  have hlt : p.block < w.heap.size := by
    rcases Nat.lt_or_ge p.block w.heap.size with h2 | h2
    · exact h2
    · unfold World.cell? at h
      rw [Array.getElem?_eq_none h2] at h
      simp at h
  exact (World.cell?_of_block (ho.block _ hlt (by simp))).trans h
theorem ActOk.keep {w w' : World} {x : ActH} (h : ActOk w x) (ho : Only [] w w') : ActOk w' x := ⟨h.t, h.n, h.row.keep ho, h.l, h.z, h.x⟩
theorem SuIn.start {w0 w : World} {p b hh : Nat} {H : HT} (h : HIn w0 w p b hh [] H) (hf : Fit H) (hn : H.J.s.n = 200) (h1 : H.sn = []) (h2 : H.tl = []) : SuIn w0 ((w.alloc (.cells #[] 9)).alloc (.cells #[] 9)) p b hh (.slice (some ⟨w.heap.size, 0, none⟩) 0 0) (.slice (some ⟨w.heap.size + 1, 0, none⟩) 0 0) := by
  have hs := h.on.size
  have hsz : (w.alloc (.cells #[] 9)).heap.size = w.heap.size + 1 := by simp
  have e1 := own_empty w 9 w0.heap.size hs
  have e2 := own_empty (w.alloc (.cells #[] 9)) 9 w0.heap.size (by omega)
  rw [hsz] at e2
  refine ⟨[w.heap.size, w.heap.size + 1], H, h.frame (((Only.refl [] w).alloc _).alloc _) _ (fun x hx => ?_), hf, hn, ?_, ?_⟩
  · right
    simp at hx
    simp
    omega
  · rw [h1]
    exact ⟨e1.alloc _, fun g hg => by cases hg; simp⟩
  · rw [h2]
    exact ⟨e2, fun g hg => by cases hg; simp⟩
theorem RowF.src {w0 w : World} {F : List Nat} {v : Value} {l : List Bs} (h : RowF w0 w F v l) : ∃ ao c, v = .slice ao l.length c ∧ (ao = none → l.length = 0 ∧ c = 0) ∧ ∀ W, Only [] w W → ∀ ad, ao = some ad → ∀ j u, (l.map strV)[j]? = some u → W.cell? (ad.add j) = some u := by
  rcases own_cells h.1 with ⟨rfl, hl⟩ | ⟨g, cap, rfl, _, hc⟩
  · have hl0 : l.length = 0 := by
      cases l with
      | nil => rfl
      | cons _ _ => simp at hl
    exact ⟨none, 0, by rw [hl0], fun _ => ⟨hl0, rfl⟩, fun _ _ ad h => by cases h⟩
  · refine ⟨some ⟨g, 0, none⟩, cap, rfl, (fun h => by cases h), fun W hW ad hd j u hu => ?_⟩
    cases hd
    rw [addr_add0]
    rw [List.getElem?_map, Option.map_eq_some_iff] at hu
    obtain ⟨y, hy, rfl⟩ := hu
    exact cell_stay (hc j y hy) hW
theorem Away2.blk {F : List Nat} {w w' : World} (h : Away2 F w w') {k : Nat} {o : Obj} (hk : w.heap[k]? = some o) (hn : k ∈ F) : w'.heap[k]? = some o := by
  obtain ⟨S, h1, h2⟩ := h
  exact h1.blk hk (h2 k hn)
theorem rows4 {w0 w w' : World} {F : List Nat} {v1 v2 v3 v4 : Value} {l1 l2 l3 l4 : List Bs} (h : RowF w0 w F v1 l1 ∧ RowF w0 w F v2 l2 ∧ RowF w0 w F v3 l3 ∧ RowF w0 w F v4 l4) (ho : Away2 F w w') : RowF w0 w' F v1 l1 ∧ RowF w0 w' F v2 l2 ∧ RowF w0 w' F v3 l3 ∧ RowF w0 w' F v4 l4 :=
  ⟨h.1.away ho, h.2.1.away ho, h.2.2.1.away ho, h.2.2.2.away ho⟩
/-- A store is opened: what it tells stays, whatever the answer. -/
theorem open_told {w0 w : World} {p b : Nat} {F : List Nat} {s : St} {u : Nat} {X : Int × List Bs × List Bs} (h : StoreIs w p b s) (ho : Only [] w0 w) (hpb : w0.heap.size ≤ p ∧ w0.heap.size ≤ b) (hF : ∀ x, x ∈ F → x < w.heap.size ∧ x ≠ p ∧ x ≠ b) (ht : Tells s u X) (hd : s.down = false) (hv : Vars w0) :
    Calls Tryd.prog 7 #[.pointer (some ⟨p, 0, none⟩)] w fun e w' => ∃ (v : Value) (s' : St), e = .returned v ∧ (Away2 F w w' ∧ w.heap.size ≤ w'.heap.size) ∧ Only [] w0 w' ∧ StoreIs w' p b s' ∧ s'.n = s.n ∧ Tells s' u X := by
  obtain ⟨h1, _⟩ := tells_open ht hd
  refine (open_in h ho hpb hF ht.n4 hv).mono ?_
  rintro e w' ⟨hS, hon, hst, hn, hr⟩
  have hsz : w.heap.size ≤ w'.heap.size := by
    obtain ⟨S, h, _⟩ := hS
    exact h.size
  rcases hr with ⟨_, rfl⟩ | ⟨_, hh, rfl, _⟩
  · exact ⟨_, _, rfl, ⟨hS, hsz⟩, hon, hst, hn, h1⟩
  · exact ⟨_, _, rfl, ⟨hS, hsz⟩, hon, hst, hn, h1⟩
/-- The append law of any row, outside of drawn regions. -/
theorem wpList_append_ext {P : Program} (w : World) {ops : Array Oper} {rest : List Oper} {o : Oper} {a : Act} {Q : Exit → Act → World → Prop} (hgd : o.guard = none) (s x : Operand) (t : TypeId)
    (ho : o.op = .call { callee := .builtin .append, args := #[s, x], argTypes := #[t, t] })
    (base : Nat) (e : TypeId) (i : TypeInfo) (z : Value) (size bytes : Nat) (ht : P.underlying t = some (.slice e)) (hi : P.info? e = some i) (hz : i.zero = some z)
    (hsize : i.size = size) (hby : i.bytes = bytes) (hzs : z.cells.size = size) (hsz : 0 < size)
    (v : Value) (n : Nat) (xs : List Value) (hs : a.eval s = v) (hown : w.ownsRow base e size v n xs)
    (ao : Option Addr) (m c : Nat) (news : List Value) (hx : a.eval x = .slice ao m c) (hl : news.length = m * size) (hn0 : ao = none → m = 0 ∧ c = 0) (hnews : ∀ ad, ao = some ad → ∀ j u, news[j]? = some u → w.cell? (ad.add j) = some u) (h1 : ∀ u ∈ news, u.oneCell' = true)
    (h63 : n + m ≤ maxLen) (hbytes : (n + m) * bytes ≤ 140737488355328) (hbase : base ≤ w.heap.size)
    (h : ∀ v' w', w'.ownsRow base e size v' (n + m) (xs ++ news) → Only v.ownBlock.toList w w' → (v'.ownBlock = v.ownBlock ∨ v'.ownBlock = some w.heap.size) → wpList P ops Q rest (a.put o.dst v') w') :
    wpList P ops Q (o :: rest) a w := by
  refine wpList_plain hgd fun K hK => ?_
  cases ao with
  | none =>
    obtain ⟨rfl, rfl⟩ := hn0 rfl
    have hrun := run_append_owned_none (P := P) (w := w) base t o.type e i size ht hi v n xs hown
    have hnil : news = [] := by
      cases news with
      | nil => rfl
      | cons _ _ => simp at hl
    subst hnil
    unfold Oper.wp
    simp [execOp, ho, resolve, invoke, builtin, hs, hx, hrun, Result.andThen]
    exact hK _ _ (h v w (by rw [Nat.add_zero, List.append_nil]; exact hown) (Only.refl _ _) (Or.inl rfl))
  | some ad =>
    obtain ⟨v', w', hr, h2, h3, h4, h5⟩ := run_append_own_at (P := P) w base t o.type e i z size bytes ht hi hz hsize hby hzs hsz v n xs hown ad m c news hl (hnews ad rfl) h1 h63 hbytes hbase
    unfold Oper.wp execOp
    simp only [ho, resolve, invoke, builtin, Sem.run_bind, Sem.run_pure, Result.andThen_ok, List.map_toArray, List.map_cons, List.map_nil, hs, hx, hr]
    exact hK _ _ (h v' w' h2 ((Only.refl _ w).grown h3 (fun k hk => Or.inl (by rw [hk]; simp))) h5)
theorem own_empty_at (w : World) (t : TypeId) (base : Nat) (h : base ≤ w.heap.size) (n : Nat) (hn : w.heap.size = n) : (w.alloc (.cells #[] t)).ownsRow base t 1 (.slice (some ⟨n, 0, none⟩) 0 0) 0 [] := by
  subst hn
  exact own_empty w t base h
theorem lit_at {w w' : World} {S : List Nat} {n : Nat} {v : Value} {t : TypeId} (h : Only S w w') (hb : w.heap[n]? = some (.cells #[v] t (0, 0))) (hn : n ∉ S) : ∀ (j : Nat) (u : Value), [v][j]? = some u → w'.cell? ((⟨n, 0, none⟩ : Addr).add j) = some u := by
  intro j u hj
  have h2 := h.blk hb hn
  match j, hj with
  | 0, hj =>
    simp at hj
    subst hj
    exact blk_cell h2 0
theorem own_one {n k c m : Nat} (h : k ∈ (Value.slice (some ⟨n, 0, none⟩) m c).ownBlock.toList) : k = n := by
  have h2 : k ∈ (some n).toList := h
  simpa using h2
theorem blk_new_at (w : World) (cs : Array Value) (t : TypeId) (n : Nat) (hn : w.heap.size = n) : (w.alloc (.cells cs t)).heap[n]? = some (.cells cs t (0, 0)) := by
  subst hn
  exact blk_new w (.cells cs t)
set_option maxHeartbeats 8000000 in
set_option maxRecDepth 100000 in
theorem HalvesSure_walk (v : Value) (l : List ActH) (a1 a2 a3 : Int) (w : World) (hvar : Vars w) (hv : RowH w v l) (hl : l.length ≤ 140737488351232) (hx : ∀ x ∈ l, ActOk w x) (h1 : 0 ≤ a1 ∧ a1 ≤ 255) (h2 : 0 ≤ a2 ∧ a2 ≤ 255) (h3 : 0 ≤ a3 ∧ a3 ≤ 255) :
    Calls Tryd.prog 3 #[v, .int .u8 a1, .int .u8 a2, .int .u8 a3] w fun e w' => e = .returned (.bool true) ∧ Below w.heap.size w w' := by
  obtain ⟨a, ca, rfl, hc⟩ := hv
  obtain ⟨L, hL⟩ : ∃ L, L = l.length := ⟨_, rfl⟩
  rw [← hL] at hl ⊢
  have HL := Lib.hid hL
  have HC := Lib.hid hc
  have HX := Lib.hid hx
  have HVA := Lib.hid hvar
  have HA := Lib.hid (And.intro h1 (And.intro h2 h3))
  clear hL hc hx hvar h1 h2 h3
  go_enter Tryd.func3, Tryd.ntmps3
  go_wp2_with fail
  refine (hawake_of w HVA.out).mono ?_
  rintro e w1 ⟨rfl, ho1⟩
  have HO1 := Lib.hid ho1
  clear ho1
  have HN : Hid (Calls Tryd.prog 6 #[.int .i64 200] w1 fun e w' => e = .returned (.tuple #[.pointer (some ⟨w1.heap.size + 1, 0, none⟩), .int .i64 0]) ∧ StoreIs w' (w1.heap.size + 1) w1.heap.size (St.new 200) ∧ Only [] w1 w') := new_up 200 (by decide) (by decide) w1
  obtain ⟨p, hp⟩ : ∃ p, p = w1.heap.size + 1 := ⟨_, rfl⟩
  obtain ⟨b, hb⟩ : ∃ b, b = w1.heap.size := ⟨_, rfl⟩
  rw [← hp, ← hb] at HN
  have HPB : Hid (w.heap.size ≤ p ∧ w.heap.size ≤ b) := by show _ ∧ _; have := HO1.out.size; omega
  clear hp hb
  go_wp2_with fail
  refine (HN.out).mono ?_
  rintro e w2 ⟨rfl, hs2, ho2⟩
  have HS2 := Lib.hid hs2
  have HO2 : Hid (Only [] w w2) := HO1.out.tr ho2
  clear hs2 ho2 HN HO1
  go_wp2_with fail
  refine (up_new (F := []) HS2.out HO2.out HPB.out (by simp) (by decide) (by decide) HVA.out).mono ?_
  rintro e w3 ⟨hh, rfl, hge, _, H3, hl3, f1, f2, f3, f4, f5⟩
  have HH : Hid (w.heap.size ≤ hh) := Nat.le_trans HO2.out.size hge
  have HL3 := Lib.hid hl3
  have HF3 : Hid (H3.J.s.n = 200 ∧ H3.sn = [] ∧ H3.tl = []) := ⟨f1, f3, f4⟩
  clear hge hl3 f1 f2 f3 f4 f5 HS2 HO2
  go_wp2_with fail
  refine (HL3.out.i.fuse _ _ ?_).mono ?_
  · have := HA.out.1.2
    rw [IntWalk.wrap64_in _ (by have := HA.out.1.1; omega)]
    omega
  rintro e w4 ⟨rfl, hi4, _⟩
  have HI4 := Lib.hid (SuIn.start hi4 (HL3.out.f.setFuse _ _ (by have := HA.out.1; rw [IntWalk.wrap64_in _ (by omega)]; omega)) HF3.out.1 HF3.out.2.1 HF3.out.2.2)
  clear hi4 HL3 HF3
  go_upto_block 0 with (fail)
  obtain ⟨sv, hsv⟩ : ∃ sv : Value, sv = .slice (some ⟨w4.heap.size, 0, none⟩) 0 0 := ⟨_, rfl⟩
  obtain ⟨tv, htv⟩ : ∃ tv : Value, tv = .slice (some ⟨w4.heap.size + 1, 0, none⟩) 0 0 := ⟨_, rfl⟩
  rw [← hsv, ← htv] at HI4 ⊢
  clear hsv htv
  generalize (w4.alloc (.cells #[] 9)).alloc (.cells #[] 9) = w5 at *
  go_cut [13, 14, 15, 16] (fun s t o m wc => Hid (SuOut w wc p b s t o m))
  case first =>
    go_wp2_with fail
    go_loopw [13, 14, 15, 16, 17] (fun s t o m i wq => ∃ k : Nat, o = s ∧ m = t ∧ i = .int .i64 (k : Int) ∧ k ≤ L ∧ Hid (SuIn w wq p b hh s t)) (fun _ _ _ _ i _ => L - (intOf i).toNat)
    case atStart => exact ⟨0, rfl, rfl, rfl, Nat.zero_le _, HI4⟩
    case round =>
      obtain ⟨k, rfl, rfl, rfl, hk, HI⟩ := hrel
      clear HI4
      by_cases hkL : k < L
      · by_cases hk40 : k < 40
        · obtain ⟨x, hx⟩ : ∃ x, l[k]? = some x := ⟨_, List.getElem?_eq_getElem (by have := HL.out; omega)⟩
          obtain ⟨ad, rfl, b0, b1, b2, b3, b4⟩ := HC.out k x hx
          have b0 := cell_stay b0 HI.out.on
          have b1 := cell_stay b1 HI.out.on
          have b2 := cell_stay b2 HI.out.on
          have b3 := cell_stay b3 HI.out.on
          have b4 := cell_stay b4 HI.out.on
          unfold strV at b3
          have hok := HX.out x (List.mem_of_getElem? hx)
          have HOK := Lib.hid hok
          obtain ⟨TX, hTX⟩ : ∃ TX, TX = mkS x.t := ⟨_, rfl⟩
          rw [← hTX] at b3
          have hTs : TX.size = x.t.length := by rw [hTX, size_mkS]
          have hTd : TX.data.toList = x.t := by rw [hTX, list_mkS]
          have HTX : Hid (TX.size = x.t.length ∧ TX.data.toList = x.t ∧ TX.size ≤ 140737488355328) := ⟨hTs, hTd, by have := hok.t; omega⟩
          have hlg := large_of x TX hTs (wr.alloc (.cells #[.int .i64 x.k, .int .i64 x.n, .int .i64 x.m, .string TX, x.v] 34)) (hok.keep (HI.out.on.alloc _))
          have HLG := Lib.hid hlg
          obtain ⟨av, ac, hav, _⟩ := hok.row
          obtain ⟨XN, hXN⟩ : ∃ XN, XN = x.l.length := ⟨_, rfl⟩
          rw [hav, ← hXN] at b4 HLG
          have HAV : Hid (x.v = .slice av XN ac) := by show _ = _; rw [hav, hXN]
          have HXN := Lib.hid hXN
          have hc0 : (0 : Int) ≤ (k : Int) := by omega
          have hc1 : ((k : Int) < (L : Int)) := by omega
          have hc2 : ((k : Int) < 40) := by omega
          have hwr : IntKind.i64.wrap ((k : Int) + 1) = (k : Int) + 1 := IntWalk.i64_in _ (by omega)
          obtain ⟨xk, hxk⟩ : ∃ xk, xk = x.k := ⟨_, rfl⟩
          obtain ⟨xn, hxn⟩ : ∃ xn, xn = x.n := ⟨_, rfl⟩
          obtain ⟨xm, hxm⟩ : ∃ xm, xm = x.m := ⟨_, rfl⟩
          rw [← hxk] at b0 HLG
          rw [← hxn] at b1 HLG
          rw [← hxm] at b2 HLG
          clear hx hTX hok hTs hTd hav hXN hlg hxk hxn hxm
          go_wp2_with fail
          refine (HLG.out).mono ?_
          rintro e w7 ⟨big, rfl, ho7, hbig⟩
          have hO7 : Only [] wr w7 := ((Only.refl [] wr).alloc _).tr ho7
          have hblk : w7.heap[wr.heap.size]? = some (.cells #[.int .i64 xk, .int .i64 xn, .int .i64 xm, .string TX, .slice av XN ac] 34 (0, 0)) := ho7.blk (blk_new wr _) (by simp)
          have HO7 := Lib.hid hO7
          have HBK := Lib.hid hblk
          have HBG := Lib.hid hbig
          have HXB : Hid (wr.heap.size < w7.heap.size) := blk_lt hblk
          clear ho7 hO7 hbig hblk b0 b1 b2 b3 b4 HLG
          cases big with
          | true =>
            have HON : Hid (Only [] w w7) := HI.out.on.tr HO7.out
            go_wp2_with fail
            go_ret
            exact ⟨rfl, HON.out.below (Nat.le_refl _) (by simp)⟩
          | false =>
            obtain ⟨xb, hxb⟩ : ∃ xb, xb = wr.heap.size := ⟨_, rfl⟩
            rw [← hxb] at HBK HXB ⊢
            have c0 : w7.cell? ⟨xb, 0, none⟩ = some (.int .i64 xk) := blk_cell HBK.out 0
            have c3 : w7.cell? ⟨xb, 3, none⟩ = some (.string TX) := blk_cell HBK.out 3
            have c4 : w7.cell? ⟨xb, 4, none⟩ = some (.slice av XN ac) := blk_cell HBK.out 4
            have HXE := Lib.hid hxb
            clear hxb
            go_upto_block 2 with (fail)
            go_cut [19, 20, 21] (fun fv nv av wc => ∃ c : Int, fv = .int .i64 c ∧ Hid (SuStep w wc p b hh c u15 u16 nv av))
            case first =>
              obtain ⟨F, H, i1, i2, i3, i4, i5⟩ := HI.out
              have j1 := i1.frame HO7.out (xb :: F) (fun x hx => by
                rcases List.mem_cons.1 hx with rfl | h
                · right; have := HXB.out; have := HXE.out; omega
                · exact Or.inl h)
              have j4 := (i4.keep HO7.out).sub (G := xb :: F) (fun x h => by simp [h])
              have j5 := (i5.keep HO7.out).sub (G := xb :: F) (fun x h => by simp [h])
              have J1 := Lib.hid j1
              have J2 := Lib.hid i2
              have J3 := Lib.hid i3
              have J4 := Lib.hid j4
              have J5 := Lib.hid j5
              clear i1 i2 i3 i4 i5 j1 j4 j5
              by_cases h01 : xk = 0 ∨ xk = 1
              · have hk01 : (xk == 0) = true ∨ ((xk == 0) = false ∧ (xk == 1) = true) := by
                  rcases h01 with rfl | rfl
                  · exact Or.inl rfl
                  · exact Or.inr ⟨rfl, rfl⟩
                have HAP := Lib.hid (J1.out.append TX HTX.out.2.2)
                clear h01
                obtain ⟨i0, hi, hz0, hz1, hz2⟩ := info_parts string_info
                rcases hk01 with n0 | ⟨n0, n1⟩
                all_goals go_wp2_with fail
                all_goals refine (HAP.out).mono ?_
                all_goals rintro e w8 ⟨rfl, hi8, hS⟩
                all_goals have HI8 := Lib.hid hi8
                all_goals have hb8 := Away2.blk (F := xb :: F) hS HBK.out (by simp)
                all_goals have d3 : w8.cell? ⟨xb, 3, none⟩ = some (.string TX) := blk_cell hb8 3
                all_goals have K4 := Lib.hid (J4.out.away hS)
                all_goals have K5 := Lib.hid (J5.out.away hS)
                all_goals have HX8 : Hid (xb < w8.heap.size) := blk_lt hb8
                all_goals have HB8 := Lib.hid hb8
                all_goals have d3a : (w8.alloc (.cells #[] 9)).cell? ⟨xb, 3, none⟩ = some (.string TX) := blk_cell (blk_alloc hb8 _) 3
                all_goals clear hi8 hS hb8 HAP c0 c3 c4
                all_goals obtain ⟨ta, tc, rfl, htn, hts⟩ := K5.out.src
                all_goals obtain ⟨TN, hTN⟩ : ∃ TN, TN = H.tl.length := ⟨_, rfl⟩
                all_goals rw [← hTN] at htn K5 J5 ⊢
                all_goals have HTN := Lib.hid hTN
                all_goals have HSRC := Lib.hid hts
                all_goals have HTN0 := Lib.hid htn
                all_goals have HLE : Hid (TN ≤ 10000) := by show _ ≤ _; have := (hal_few J1.out).2; omega
                all_goals have HSZ : Hid (w.heap.size ≤ w8.heap.size) := HI8.out.on.size
                all_goals clear hTN hts htn
                all_goals go_upto_region 22 with (fail)
                all_goals go_region_law (first | (refine step_append_ext _ (by rfl) _ _ 32 (by rfl) w8.heap.size 9 i0 (.string ByteArray.empty) 1 16 Tryd.underlying32 hi hz0 hz1 hz2 rfl (by decide) _ 0 [] (by rfl) (by first | exact own_empty (w8.drew) _ _ (Nat.le_refl _) | exact (own_empty (w8.drew) _ _ (Nat.le_refl _)).alloc _ | exact own_empty_at ((w8.drew).alloc _) _ _ (by simp) _ (by simp)) ta TN tc (H.tl.map strV) (by rfl) (by rw [List.length_map, Nat.mul_one]; exact HTN.out.symm) HTN0.out (HSRC.out _ (by first | exact ((Only.refl [] w8).drew.alloc _) | exact (((Only.refl [] w8).drew.alloc _).alloc _))) (by intro u hu; rw [List.mem_map] at hu; obtain ⟨_, _, rfl⟩ := hu; rfl) (by have := HLE.out; unfold maxLen; omega) (by have := HLE.out; omega) (by simp; try omega) ?_; intro v9 w9 hown9 hon9 hat9; have hb9 : w9.heap[xb]? = some (.cells #[.int .i64 xk, .int .i64 xn, .int .i64 xm, .string TX, .slice av XN ac] 34 (0, 0)) := (hon9.blk (k := xb) (by first | exact blk_alloc (w := w8.drew) HB8.out _ | exact blk_alloc (blk_alloc (w := w8.drew) HB8.out _) _) (fun hm => by have := HX8.out; have hm2 := own_one hm; have h2 : w8.drew.heap.size = w8.heap.size := rfl; have h3 : (w8.drew.alloc (.cells #[.string TX] 9)).heap.size = w8.heap.size + 1 := (by simp); omega)); have e3 : w9.cell? ⟨xb, 3, none⟩ = some (.string TX) := blk_cell hb9 3; have HO9 : Hid (Only [] w8 w9) := (Only.trans (S := []) (by first | exact ((Only.refl [] w8).drew.alloc _) | exact (((Only.refl [] w8).drew.alloc _).alloc _)) hon9 (fun k hm => Or.inr (by have hm2 := own_one hm; have h2 : w8.drew.heap.size = w8.heap.size := rfl; have h3 : (w8.drew.alloc (.cells #[.string TX] 9)).heap.size = w8.heap.size + 1 := (by simp); omega))); have HV9 := Lib.hid hown9; have HON9 := Lib.hid hon9; rw [Nat.zero_add, List.nil_append] at HV9; clear hown9 hon9 hat9 hb9) | (refine step_append_ext _ (by rfl) _ _ 32 (by rfl) w8.heap.size 9 i0 (.string ByteArray.empty) 1 16 Tryd.underlying32 hi hz0 hz1 hz2 rfl (by decide) v9 TN (H.tl.map strV) (by rfl) (by first | exact HV9.out.alloc _ | exact HV9.out) _ 1 1 [.string TX] (by rfl) rfl (fun h => by cases h) (by intro ad had j u hu; cases had; first | exact news_one w9 _ _ j u hu | exact lit_at HON9.out (blk_alloc (blk_new w8.drew _) _) (fun hm => by have hm2 := own_one hm; have h2 : w8.drew.heap.size = w8.heap.size := rfl; have h3 : (w8.drew.alloc (.cells #[.string TX] 9)).heap.size = w8.heap.size + 1 := (by simp); omega) j u hu | exact lit_at HON9.out (blk_new_at (w8.drew.alloc _) _ _ _ (by simp)) (fun hm => by have hm2 := own_one hm; have h2 : w8.drew.heap.size = w8.heap.size := rfl; have h3 : (w8.drew.alloc (.cells #[.string TX] 9)).heap.size = w8.heap.size + 1 := (by simp); omega) j u hu) (by intro u hu; simp at hu; subst hu; rfl) (by have := HLE.out; unfold maxLen; omega) (by have := HLE.out; omega) (by have := HO9.out.size; simp; omega) ?_; intro v10 w10 hown10 hon10 hat10; have HO10 : Hid (Only [] w8 w10) := (by first | exact Only.trans (HO9.out.alloc _) hon10 (fun k hm => Or.inr (HV9.out.lt k (by simpa using hm)).1) | exact Only.trans HO9.out hon10 (fun k hm => Or.inr (HV9.out.lt k (by simpa using hm)).1)); have HV10 := Lib.hid hown10; clear hown10 hon10 hat10))
                all_goals have HFIN := Lib.hid (SuIn.app J2.out J3.out K4.out (by have h := K5.out; rw [HTN.out] at h; exact h) HI8.out HO10.out (by rw [strV, mkS_list, ← HTN.out]; exact HV10.out))
                all_goals have hTN := HTN.out
                all_goals subst hTN
                all_goals go_wp2_with fail
                all_goals go_meet
                all_goals exact ⟨_, rfl, HFIN⟩
              · have n0 : (xk == 0) = false := beq_eq_false_iff_ne.mpr (fun e => h01 (Or.inl e))
                have n1 : (xk == 1) = false := beq_eq_false_iff_ne.mpr (fun e => h01 (Or.inr e))
                clear h01
                by_cases h2 : xk = 2
                · subst h2
                  have hrow : RowS w (.slice av XN ac) x.l := by have h := HOK.out.row; rw [HAV.out] at h; exact h
                  have HZ : Hid (av = none → XN = 0 ∧ ac = 0) := fun h => by
                    have hz := HOK.out.z
                    rw [HAV.out, h] at hz
                    rcases hz with hz | ⟨_, _, _, hz⟩
                    · injection hz with _ e1 e2
                      exact ⟨e1, e2⟩
                    · cases hz
                  have hon7 : Only [] w w7 := HI.out.on.tr HO7.out
                  have HCP := Lib.hid (J1.out.compactAny HVA.out (row_argA hrow hon7 HPB.out.1 HPB.out.2) (row_argA hrow hon7 HH.out HH.out) (by have := HOK.out.l; omega) (fun y hy => by have := HOK.out.x y hy; omega) (by rcases HBG.out trivial with h | h; exact Or.inl h; exact Or.inr (by omega)))
                  have HROW := Lib.hid hrow
                  obtain ⟨i0, hi, hz0, hz1, hz2⟩ := info_parts string_info
                  clear hrow hon7
                  go_wp2_with fail
                  refine (HCP.out).mono ?_
                  rintro e w8 ⟨rfl, hi8, hS⟩
                  have HI8 := Lib.hid hi8
                  have hb8 := Away2.blk (F := xb :: F) hS HBK.out (by simp)
                  have d4 : w8.cell? ⟨xb, 4, none⟩ = some (.slice av XN ac) := blk_cell hb8 4
                  have d4a : (w8.alloc (.cells #[] 9)).cell? ⟨xb, 4, none⟩ = some (.slice av XN ac) := blk_cell (blk_alloc hb8 _) 4
                  have K4 := Lib.hid (J4.out.away hS)
                  have K5 := Lib.hid (J5.out.away hS)
                  have HX8 : Hid (xb < w8.heap.size) := blk_lt hb8
                  have HSRC : Hid (∀ W, Only [] w8 W → ∀ ad, av = some ad → ∀ j u, (x.l.map strV)[j]? = some u → W.cell? (ad.add j) = some u) := fun W hW ad had j u hu => by
                    obtain ⟨a', c', he, hc'⟩ := HROW.out.keep (HI8.out.on.tr hW)
                    injection he with e1 _ _
                    rw [List.getElem?_map, Option.map_eq_some_iff] at hu
                    obtain ⟨y, hy, rfl⟩ := hu
                    obtain ⟨p', hp', hq⟩ := hc' j y hy
                    rw [← e1, had] at hp'
                    cases hp'
                    exact hq
                  have HXL : Hid (XN * 16 ≤ 140737488351232) := by show _ ≤ _; rw [HXN.out]; exact HOK.out.l
                  clear hi8 hS hb8 HCP c0 c3 c4
                  go_wp2_with (at_builtin; refine wpList_append_ext _ rfl _ _ 32 rfl w8.heap.size 9 i0 (.string ByteArray.empty) 1 16 Tryd.underlying32 hi hz0 hz1 hz2 rfl (by decide) _ 0 [] rfl (own_empty w8 _ _ (Nat.le_refl _)) av XN ac (x.l.map strV) rfl ?c0 HZ.out ?c1 ?c2 ?c3 ?c4 ?c5 ?_)
                  case c0 => rw [List.length_map, Nat.mul_one]; exact HXN.out.symm
                  case c1 => exact HSRC.out _ ((Only.refl [] w8).alloc _)
                  case c2 => intro u hu; rw [List.mem_map] at hu; obtain ⟨_, _, rfl⟩ := hu; rfl
                  case c3 => have := HXL.out; unfold maxLen; omega
                  case c4 => have := HXL.out; omega
                  case c5 => simp
                  intro v9 w9 hown9 hon9 hat9
                  have hO9 : Only [] w8 w9 := Only.trans ((Only.refl [] w8).alloc _) hon9 (fun k hm => Or.inr (by have hm2 := own_one hm; omega))
                  have HFIN := Lib.hid (SuIn.comp J2.out J3.out K4.out K5.out HI8.out hO9 (by rw [← HXN.out]; exact hown9))
                  clear hown9 hon9 hat9 hO9
                  go_wp2_with fail
                  go_meet
                  case rel => exact ⟨_, rfl, HFIN⟩
                · have n2 : (xk == 2) = false := beq_eq_false_iff_ne.mpr h2
                  have HFIN := Lib.hid ((HI.out.keep HO7.out).idle)
                  go_wp2_with fail
                  go_meet
                  case rel => exact ⟨_, rfl, HFIN⟩
            case rest =>
              obtain ⟨c, rfl, HST⟩ := hcut
              clear HI c0 c3 c4
              by_cases hc0' : c = 0
              · subst hc0'
                have HI9 := Lib.hid HST.out.went
                clear HST
                go_wp2_with fail
                go_roundw
                case rel => exact ⟨k + 1, rfl, rfl, rfl, by omega, HI9⟩
                case measure => simp [intOf]; omega
              · by_cases hc16 : c = 16
                · subst hc16
                  have HI9 := Lib.hid HST.out.fell
                  clear HST
                  go_wp2_with fail
                  go_meet
                  case rel => exact HI9
                · have b1 : (c == 0) = false := beq_eq_false_iff_ne.mpr hc0'
                  have b2 : (c == 16) = false := beq_eq_false_iff_ne.mpr hc16
                  have HI9 := Lib.hid (HST.out.same hc0' hc16)
                  clear HST
                  go_wp2_with fail
                  go_roundw
                  case rel => exact ⟨k + 1, rfl, rfl, rfl, by omega, HI9⟩
                  case measure => simp [intOf]; omega
        · have hc0 : ¬ ((k : Int) < 40) := by omega
          have hc1 : ((k : Int) < (L : Int)) := by omega
          have HI9 := Lib.hid HI.out.out
          go_wp2_with fail
          go_meet
          case rel => exact HI9
      · have hc1 : ¬ ((k : Int) < (L : Int)) := by omega
        have HI9 := Lib.hid HI.out.out
        go_wp2_with fail
        go_meet
        case rel => exact HI9
  case rest =>
    clear HI4 HC HX hl
    obtain ⟨F, s, uu, aa, sn, tl, on, mo, hs5, hn5, ho5, hF5, r1, r2, r3, r4, htl⟩ := hcut.out
    obtain ⟨y1, y2, hT5, hy⟩ : ∃ y1 y2, Tells s uu (aa, y1, y2) ∧ ((y1 = sn ∧ y2 = tl) ∨ (y1 = on ∧ y2 = mo)) := by
      rcases htl with h | h
      · exact ⟨sn, tl, h, Or.inl ⟨rfl, rfl⟩⟩
      · exact ⟨on, mo, h, Or.inr ⟨rfl, rfl⟩⟩
    have HS5 := Lib.hid hs5
    have HN5 := Lib.hid hn5
    have HO5 := Lib.hid ho5
    have HF5 := Lib.hid hF5
    have HR5 : Hid (RowF w wc F u13 sn ∧ RowF w wc F u14 tl ∧ RowF w wc F u15 on ∧ RowF w wc F u16 mo) := ⟨r1, r2, r3, r4⟩
    have HT5 := Lib.hid hT5
    have HY := Lib.hid hy
    clear hs5 hn5 ho5 hF5 r1 r2 r3 r4 htl hT5 hy hcut
    go_wp2_with fail
    refine (up_of HS5.out).mono ?_
    rintro e w6 ⟨rfl, hs6, ho6⟩
    have hA6 : Away2 F wc w6 := ⟨_, ho6, fun x hx => by simp; exact (HF5.out x hx).2.1⟩
    have HS6 := Lib.hid hs6
    have HO6 : Hid (Only [] w w6) := HO5.out.trans ho6 (by simp; exact HPB.out.1)
    have HR6 := Lib.hid (rows4 HR5.out hA6)
    have HF6 : Hid (∀ x, x ∈ F → x < w6.heap.size ∧ x ≠ p ∧ x ≠ b) := fun x hx => ⟨Nat.lt_of_lt_of_le (HF5.out x hx).1 ho6.size, (HF5.out x hx).2⟩
    clear hs6 ho6 hA6 HS5 HO5 HR5 HF5
    go_wp2_with fail
    refine (fuse_of HS6.out _ _ ?_).mono ?_
    · have := HA.out.2.2
      have h1 : 0 ≤ a3.tmod 4 ∧ a3.tmod 4 < 4 := ⟨Int.tmod_nonneg _ this.1, Int.tmod_lt_of_pos _ (by decide)⟩
      rw [IntWalk.wrap64_in _ (by omega)]
      omega
    rintro e w7 ⟨rfl, hs7, ho7⟩
    have hA7 : Away2 F w6 w7 := ⟨_, ho7, fun x hx => by simp; exact (HF6.out x hx).2.1⟩
    obtain ⟨s7, hs7e⟩ : ∃ s7, s7 = s.up.setFuse (wrap64 (a3.tmod 4)) (a2.tdiv 8 % 256) := ⟨_, rfl⟩
    have hT7 : Tells s7 uu (aa, y1, y2) := by
      rw [hs7e]
      refine HT5.out.up.setFuse _ _ ?_
      have := HA.out.2.2
      have h1 : 0 ≤ a3.tmod 4 ∧ a3.tmod 4 < 4 := ⟨Int.tmod_nonneg _ this.1, Int.tmod_lt_of_pos _ (by decide)⟩
      rw [IntWalk.wrap64_in _ (by omega)]
      omega
    have hd7 : s7.down = false := by rw [hs7e]; rfl
    have hn7 : s7.n = 200 := by rw [hs7e]; exact HN5.out
    rw [← hs7e] at hs7
    have HS7 := Lib.hid hs7
    have HT7 := Lib.hid hT7
    have HN7 : Hid (s7.down = false ∧ s7.n = 200) := ⟨hd7, hn7⟩
    have HO7 : Hid (Only [] w w7) := HO6.out.trans ho7 (by simp; exact HPB.out.1)
    have HR7 := Lib.hid (rows4 HR6.out hA7)
    have HF7 : Hid (∀ x, x ∈ F → x < w7.heap.size ∧ x ≠ p ∧ x ≠ b) := fun x hx => ⟨Nat.lt_of_lt_of_le (HF6.out x hx).1 ho7.size, (HF6.out x hx).2⟩
    clear hs7 ho7 hA7 hs7e hT7 hd7 hn7 HS6 HO6 HR6 HF6 HT5 HN5
    go_wp2_with fail
    refine (open_told (F := F) HS7.out HO7.out HPB.out HF7.out HT7.out HN7.out.1 HVA.out).mono ?_
    rintro e w8 ⟨v8, s8, rfl, hA8, ho8, hs8, hn8, hT8⟩
    have HS8 := Lib.hid hs8
    have HT8 := Lib.hid hT8
    have HN8 : Hid (s8.n = 200) := hn8.trans HN7.out.2
    have HO8 := Lib.hid ho8
    have HR8 := Lib.hid (rows4 HR7.out hA8.1)
    have HF8 : Hid (∀ x, x ∈ F → x < w8.heap.size ∧ x ≠ p ∧ x ≠ b) := fun x hx => ⟨Nat.lt_of_lt_of_le (HF7.out x hx).1 hA8.2, (HF7.out x hx).2⟩
    clear hs8 hA8 ho8 hn8 hT8 HS7 HT7 HN7 HO7 HR7 HF7
    go_wp2_with fail
    refine (up_of HS8.out).mono ?_
    rintro e w9 ⟨rfl, hs9, ho9⟩
    have hA9 : Away2 F w8 w9 := ⟨_, ho9, fun x hx => by simp; exact (HF8.out x hx).2.1⟩
    have HS9 := Lib.hid hs9
    have HO9 : Hid (Only [] w w9) := HO8.out.trans ho9 (by simp; exact HPB.out.1)
    have HR9 := Lib.hid (rows4 HR8.out hA9)
    have HF9 : Hid (∀ x, x ∈ F → x < w9.heap.size ∧ x ≠ p ∧ x ≠ b) := fun x hx => ⟨Nat.lt_of_lt_of_le (HF8.out x hx).1 ho9.size, (HF8.out x hx).2⟩
    clear hs9 ho9 hA9 HS8 HO8 HR8 HF8
    go_wp2_with fail
    refine (up_open (F := F) HS9.out HO9.out HPB.out HF9.out HT8.out.up rfl rfl HVA.out).mono ?_
    rintro e w10 ⟨kk, rfl, _, hA10, K, hl10, g1, g2, g3, g4⟩
    have HL10 := Lib.hid hl10
    have HR10 := Lib.hid (rows4 HR9.out hA10)
    have HK : Hid (K.J.s.n = 200 ∧ K.sn = y1 ∧ K.tl = y2) := ⟨g1.trans HN8.out, g3, g4⟩
    clear hA10 hl10 g1 g2 g3 g4 HS9 HO9 HR9 HF9 HT8 HN8
    go_upto_region 38 with (fail)
    have HFW := Lib.hid (hal_few HL10.out.i)
    have HO10 : Hid (Only [] w w10) := HL10.out.i.on
    have HLN : Hid (y1.length ≤ 10000 ∧ y2.length ≤ 10000) := by have h := HFW.out; rw [HK.out.2.1, HK.out.2.2] at h; exact h
    go_cut [24] (fun c wx => ∃ bb : Bool, c = .bool bb ∧ Hid (Only [] w10 wx ∧ (bb = false → y1 = on ∧ y2 = mo)))
    case first =>
      go_wp2_with fail
      refine (HL10.out.snapF HK.out.2.1).mono ?_
      rintro e w11 ⟨ra, rc, rfl, hown, ho11, _⟩
      have HW11 := Lib.hid (RowS.of_own hown)
      have HO11 := Lib.hid ho11
      clear hown ho11
      by_cases e1 : y1 = sn
      · have HS11 : Hid (RowS w11 u13 y1) := by rw [e1]; exact RowS.of_own (HR10.out.1.keep HO11.out).1
        have HE1 := Lib.hid e1
        clear e1
        go_wp2_with fail
        refine (Same_eq HW11.out HS11.out (by have := HLN.out; omega)).mono ?_
        rintro e w12 ⟨rfl, ho12⟩
        have HO12 := Lib.hid (HO11.out.tr ho12)
        clear ho12 HW11 HS11
        go_wp2_with fail
        refine ((HL10.out.keep HO12.out).tailF HK.out.2.2).mono ?_
        rintro e w13 ⟨rb, rd, rfl, hown, ho13, _⟩
        have HW13 := Lib.hid (RowS.of_own hown)
        have HO13 := Lib.hid (HO12.out.tr ho13)
        clear hown ho13
        by_cases e2 : y2 = tl
        · have HS13 : Hid (RowS w13 u14 y2) := by rw [e2]; exact RowS.of_own (HR10.out.2.1.keep HO13.out).1
          clear e2
          go_wp2_with fail
          refine (Same_eq HW13.out HS13.out (by have := HLN.out; omega)).mono ?_
          rintro e w14 ⟨rfl, ho14⟩
          have HO14 := Lib.hid (HO13.out.tr ho14)
          clear ho14
          go_wp2_with fail
          go_meet
          case rel => exact ⟨true, rfl, ⟨HO14.out, fun h => by cases h⟩⟩
        · have HS13 : Hid (RowS w13 u14 tl) := RowS.of_own (HR10.out.2.1.keep HO13.out).1
          have HE2 := Lib.hid e2
          clear e2
          go_wp2_with fail
          refine (Same_ne HW13.out HS13.out (by have := HLN.out; omega) HE2.out).mono ?_
          rintro e w14 ⟨rfl, ho14⟩
          have HO14 := Lib.hid (HO13.out.tr ho14)
          clear ho14
          go_wp2_with fail
          go_meet
          case rel => exact ⟨false, rfl, ⟨HO14.out, fun _ => by rcases HY.out with h | h; exact absurd h.2 HE2.out; exact h⟩⟩
      · have HS11 : Hid (RowS w11 u13 sn) := RowS.of_own (HR10.out.1.keep HO11.out).1
        have HE1 := Lib.hid e1
        clear e1
        go_wp2_with fail
        refine (Same_ne HW11.out HS11.out (by have := HLN.out; omega) HE1.out).mono ?_
        rintro e w12 ⟨rfl, ho12⟩
        have HO12 := Lib.hid (HO11.out.tr ho12)
        clear ho12
        go_wp2_with fail
        go_meet
        case rel => exact ⟨false, rfl, ⟨HO12.out, fun _ => by rcases HY.out with h | h; exact absurd h.1 HE1.out; exact h⟩⟩
    case rest =>
      obtain ⟨bb, rfl, HX1⟩ := hcut
      go_upto_region 39 with (fail)
      go_cut [160] (fun c wy => c = .bool false ∧ Hid (Only [] w10 wy))
      case first =>
        cases bb with
        | true =>
          go_wp2_with fail
          go_meet
          case rel => exact ⟨rfl, HX1.out.1⟩
        | false =>
          have HYY : Hid (y1 = on ∧ y2 = mo) := HX1.out.2 rfl
          have HOX : Hid (Only [] w10 wc) := HX1.out.1
          clear HX1
          go_wp2_with fail
          refine ((HL10.out.keep HOX.out).snapF HK.out.2.1).mono ?_
          rintro e w11 ⟨ra, rc, rfl, hown, ho11, _⟩
          have HW11 := Lib.hid (RowS.of_own hown)
          have HO11 := Lib.hid (HOX.out.tr ho11)
          have HS11 : Hid (RowS w11 u15 y1) := by show RowS _ _ _; rw [HYY.out.1]; exact RowS.of_own (HR10.out.2.2.1.keep HO11.out).1
          clear hown ho11
          go_wp2_with fail
          refine (Same_eq HW11.out HS11.out (by have := HLN.out; omega)).mono ?_
          rintro e w12 ⟨rfl, ho12⟩
          have HO12 := Lib.hid (HO11.out.tr ho12)
          clear ho12 HW11 HS11
          go_wp2_with fail
          refine ((HL10.out.keep HO12.out).tailF HK.out.2.2).mono ?_
          rintro e w13 ⟨rb, rd, rfl, hown, ho13, _⟩
          have HW13 := Lib.hid (RowS.of_own hown)
          have HO13 := Lib.hid (HO12.out.tr ho13)
          have HS13 : Hid (RowS w13 u16 y2) := by show RowS _ _ _; rw [HYY.out.2]; exact RowS.of_own (HR10.out.2.2.2.keep HO13.out).1
          clear hown ho13
          go_wp2_with fail
          refine (Same_eq HW13.out HS13.out (by have := HLN.out; omega)).mono ?_
          rintro e w14 ⟨rfl, ho14⟩
          have HO14 := Lib.hid (HO13.out.tr ho14)
          clear ho14
          go_wp2_with fail
          go_meet
          case rel => exact ⟨rfl, HO14.out⟩
      case rest =>
        obtain ⟨rfl, HOX⟩ := hcut
        have HLX := Lib.hid (HL10.out.keep HOX.out)
        clear HL10 HR10 HX1 HOX
        go_wp2_with fail
        refine (HLX.out.tailF HK.out.2.2).mono ?_
        rintro e w11 ⟨ta, tc, rfl, hown, ho11, hl11⟩
        have HW11 := Lib.hid hown
        have HL11 := Lib.hid hl11
        have HG11 : Hid (∀ g, (Value.slice ta y2.length tc).ownBlock = some g → w.heap.size ≤ g) := fun g hg => by have := (hown.lt g hg).1; have := HLX.out.i.on.size; omega
        clear hown ho11 hl11 HLX
        go_wp2_with fail
        refine (up_append HL11.out { data := #[111, 110] } (by decide)).mono ?_
        rintro e w12 ⟨c, K2, rfl, hl12, hA12, f1, f2, f3, f4⟩
        have HW12 := Lib.hid (own_away2 HW11.out hA12 (fun g hg => by simp [hg]))
        have HL12 := Lib.hid hl12
        have HN12 : Hid (K2.J.s.n = 200) := f1.trans HK.out.1
        have HC12 : Hid ((c = 14 ∧ K2.tl = y2) ∨ (c = 0 ∧ K2.tl = y2 ++ [[111, 110]])) := by
          rcases f4 with ⟨_, h, _⟩ | ⟨h, _, _, h2, _⟩ | ⟨h, _, h2, _⟩
          · exact absurd h (by decide)
          · exact Or.inl ⟨h, h2.trans HK.out.2.2⟩
          · exact Or.inr ⟨h, by rw [h2, HK.out.2.2]⟩
        clear hl12 hA12 f1 f2 f3 f4 HW11 HL11
        go_wp2_with fail
        refine (up_open (F := (Value.slice ta y2.length tc).ownBlock.toList) HL12.out.i.st HL12.out.i.on HPB.out (fun x hx => HL12.out.i.fl x (by simp at hx; simp [hx])) HL12.out.f.tells HL12.out.f.up HL12.out.nf HVA.out).mono ?_
        rintro e w13 ⟨nn, rfl, _, hA13, N, hl13, f1, f2, f3, f4⟩
        have HW13 := Lib.hid (own_away2 HW12.out hA13 (fun g hg => by simp [hg]))
        have HL13 := Lib.hid hl13
        have HTN : Hid (N.tl = K2.tl) := f4
        clear hA13 hl13 f1 f2 f3 f4 HW12 HL12
        rcases HC12.out with ⟨rfl, hk⟩ | ⟨rfl, hk⟩
        · have HT13 : Hid (N.tl = y2) := HTN.out.trans hk
          clear hk HTN HC12
          go_wp2_with fail
          refine (HL13.out.tailF HT13.out).mono ?_
          rintro e w14 ⟨va, vc, rfl, hown, ho14, _⟩
          have HS14 := Lib.hid (RowS.of_own hown)
          have HV14 : Hid (RowS w14 (.slice ta y2.length tc) y2) := RowS.of_own (own_keep HW13.out ho14 (by simp))
          have HO14 : Hid (Only [] w w14) := HL13.out.i.on.tr ho14
          clear hown ho14 HL13 HW13
          go_wp2_with fail
          refine (Same_eq HS14.out HV14.out (by have := HLN.out; omega)).mono ?_
          rintro e w15 ⟨rfl, ho15⟩
          have HO15 := Lib.hid (HO14.out.tr ho15)
          clear ho15
          go_wp2_with fail
          go_ret
          exact ⟨rfl, HO15.out.below (Nat.le_refl _) (by simp)⟩
        · have HT13 : Hid (N.tl = y2 ++ [[111, 110]]) := HTN.out.trans hk
          clear hk HTN HC12
          obtain ⟨i0, hi, hz0, hz1, hz2⟩ := info_parts string_info
          go_wp2_with fail
          refine (HL13.out.tailF HT13.out).mono ?_
          rintro e w14 ⟨va, vc, rfl, hown, ho14, _⟩
          obtain ⟨MN, hMN⟩ : ∃ MN, MN = (y2 ++ [[111, 110]]).length := ⟨_, rfl⟩
          rw [← hMN] at hown ⊢
          have HMN := Lib.hid hMN
          have HS14 := Lib.hid hown
          have HW14 := Lib.hid (own_keep HW13.out ho14 (by simp))
          have HO14 : Hid (Only [] w w14) := HL13.out.i.on.tr ho14
          have HD14 : Hid (∀ g, (Value.slice va MN vc).ownBlock = some g → ∀ h, (Value.slice ta y2.length tc).ownBlock = some h → g ≠ h) := fun g hg h hh2 => by
            have e1 := (hown.lt g hg).1
            have e2 := (HW13.out.lt h hh2).2
            omega
          clear hown ho14 HL13 HW13 hMN
          go_wp2_with (at_builtin; refine append_want _ rfl _ _ 32 rfl 0 9 i0 (.string ByteArray.empty) 1 16 Tryd.underlying32 hi hz0 hz1 hz2 rfl (by decide) _ _ _ rfl ((own_mono HW14.out (Nat.zero_le _)).alloc _) ⟨w14.heap.size, 0, none⟩ 1 1 [strV [111, 110]] rfl rfl ?c1 ?c2 ?c3 ?c4 ?c5 ?_)
          case c1 => exact news_one w14 _ _
          case c2 => intro u hu; simp at hu; subst hu; rfl
          case c3 => have := HLN.out; unfold maxLen; omega
          case c4 => have := HLN.out; omega
          case c5 => exact Nat.zero_le _
          intro vd w15 hown15 hgrow15 hat15
          have hO15 : Only (Value.slice ta y2.length tc).ownBlock.toList w14 w15 := ((Only.refl _ w14).alloc _).grown hgrow15 (fun k hk => Or.inl (by rw [hk]; simp))
          have HR15 : Hid (RowS w15 (.slice va MN vc) (y2 ++ [[111, 110]])) := RowS.of_n (own_keep HS14.out hO15 (fun g hg hx => HD14.out g hg g (by simpa using hx) rfl)) HMN.out
          have HV15 : Hid (RowS w15 vd (y2 ++ [[111, 110]])) := RowS.of_own (base := 0) (by rw [List.length_append, List.map_append]; simpa using hown15)
          have HO15 : Hid (Only [] w w15) := HO14.out.trans hO15 (fun x hx => Or.inr (HG11.out x (by simpa using hx)))
          clear hown15 hgrow15 hat15 hO15 HW14 HS14
          go_wp2_with fail
          refine (Same_eq HR15.out HV15.out (by have := HLN.out; rw [List.length_append]; simp; omega)).mono ?_
          rintro e w16 ⟨rfl, ho16⟩
          have HO16 := Lib.hid (HO15.out.tr ho16)
          clear ho16
          go_wp2_with fail
          go_ret
          exact ⟨rfl, HO16.out.below (Nat.le_refl _) (by simp)⟩
end Go.Proofs.YtngcdkbnljoodaaDoor

