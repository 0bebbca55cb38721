/- HalvesDo's walk. No conditions beyond the variables that strconv reads, and the bounds typed. -/
import Derived.Test.YtngcdkbnljoodaaGreatDoorMrgK
namespace Go.Proofs.YtngcdkbnljoodaaGreatDoor
set_option linter.unusedVariables false
set_option linter.unusedSimpArgs false
open Go.RowKit Go.Proofs.YtngcdkbnljoodaaGreatDoorW.PrintWords

section
variable {P : Program} {md : Region.Mode} {ops : Array Oper} {Q : Exit → Act → World → Prop} {S : World → Prop}
/-- The library's wpAnyH_take, the destination named. -/
theorem wpAnyH_take2 {i : Nat} {oi : Oper} {d : Option Tmp} {v : Value} {fuel : Nat} {listed : Array Bool} {a : Act} {w : World} (hi : ops[i]? = some oi) (hd : oi.dst = d)
    (hs : Region.noSelect ops = true) (hf : Region.free md ops listed i = true) (hr : (Region.ready md ops listed).contains i = true)
    (hQ : ∀ c a w, Q (.panic c) (a.put d v) w → Q (.panic c) a w) (hy : YieldsIf P ops S oi v a) (hS : S w)
    (h : wpAnyH P md ops Q S fuel (listed.setIfInBounds i true) (a.put d v) w) : wpAnyH P md ops Q S (fuel + 1) listed a w := by
  subst hd
  exact wpAnyH_take hi hs hf hr hQ hy hS h
end

theorem two_xb {w0 w : World} {p b q g xb : Nat} {B R : HB} {HA HR : HT} {cs : Array Value} (h : Two w0 w p b q g B R HA HR) (hx : w.heap[xb]? = some (.cells cs 39 (0, 0))) : xb ∉ [p, b] ++ B.own ∧ xb ∉ [q, g] ++ R.own := by
  have hne : ∀ {y : Nat} {t : TypeId}, (∃ cs f, w.heap[y]? = some (.cells cs t f)) → t ≠ 39 → xb ≠ y := fun hy e he => ty_ne hy ⟨_, _, hx⟩ e he.symm
  constructor
  · obtain ⟨vs, vt, hb, hr, h1, h2⟩ := h.a.ex
    intro hm
    simp only [HB.own, List.mem_append, List.mem_cons, List.not_mem_nil, or_false, Option.mem_toList, Option.mem_def] at hm
    rcases hm with (e | e) | (e | e) | e | e | e
    · exact hne h.a.st.typeP (by decide) e
    · exact hne h.a.st.typeB (by decide) e
    · exact hne ⟨_, _, hb⟩ (by decide) e
    · exact hne h.a.jn.typeJ (by decide) e
    · exact hne (h.a.jn.typeR e) (by decide) rfl
    · exact hne (own_type hr.s (h1.trans e)) (by decide) rfl
    · exact hne (own_type hr.t (h2.trans e)) (by decide) rfl
  · obtain ⟨vs, vt, hb, hr, ht, h1, h2⟩ := h.r.ex
    intro hm
    simp only [HB.own, List.mem_append, List.mem_cons, List.not_mem_nil, or_false, Option.mem_toList, Option.mem_def] at hm
    rcases hm with (e | e) | (e | e) | e | e | e
    · exact hne h.r.st.typeQ (by decide) e
    · exact hne h.r.st.typeG (by decide) e
    · exact hne ⟨_, _, hb⟩ (by decide) e
    · exact hne h.r.jn.typeJ (by decide) e
    · exact hne (h.r.jn.typeR e) (by decide) rfl
    · exact hne (own_type hr (h1.trans e)) (by decide) rfl
    · exact hne (own_type ht (h2.trans e)) (by decide) rfl
theorem DoIn.turn {w0 w w' : World} {p b q g n : Nat} {hv rv : Value} {s : St} (h : DoIn w0 w p b q g n hv rv) (ho : Only [p, b, q, g] w w') (hs : St2 w0 w' p b q g s s) (hn : s.n = n) : DoIn w0 w' p b q g n hv rv := by
  rcases h with ⟨h1, h2, s0, h3, h4⟩ | ⟨B, R, H, h1, h2, h3, h4⟩
  · exact Or.inl ⟨h1, h2, s, hs, hn⟩
  · exact Or.inr ⟨B, R, _, h1, h2, h3.turn ho hs (hn.trans h4.symm) (hn.trans h4.symm), hn⟩
theorem st_xb {w0 w : World} {p b q g xb : Nat} {s t : St} {cs : Array Value} (h : St2 w0 w p b q g s t) (hx : w.heap[xb]? = some (.cells cs 39 (0, 0))) : xb ≠ p ∧ xb ≠ b ∧ xb ≠ q ∧ xb ≠ g := by
  have hne : ∀ {y : Nat} {t : TypeId}, (∃ cs f, w.heap[y]? = some (.cells cs t f)) → t ≠ 39 → xb ≠ y := fun hy e he => ty_ne hy ⟨_, _, hx⟩ e he.symm
  exact ⟨hne h.a.typeP (by decide), hne h.a.typeB (by decide), hne h.r.typeQ (by decide), hne h.r.typeG (by decide)⟩
theorem happ_n {w : World} {B : HB} {p b : Nat} {H : HT} (h : HalIs w B p b H) (r : Bs) : (H.append r).1.J.s.n = H.J.s.n := by
  have hk := (JS.app_ok h.ok ([116, 32] ++ r)).2
  unfold HT.append
  split
  · rfl
  · split
    · rfl
    · split
      · exact hk
      · split
        · exact hk
        · exact hk
theorem hcomp_n {w : World} {B : HB} {p b : Nat} {H : HT} (h : HalIs w B p b H) (sn : List Bs) : (H.compact sn).1.J.s.n = H.J.s.n := by
  have hk := (fresh_ok h.st.wf (half_has (k := 1 - H.use) (by omega) h.n4) (recsL (H.age + 1) sn)).2
  unfold HT.compact
  split
  · rfl
  · split
    · rfl
    · split
      · rfl
      · split
        · exact hk
        · exact hk
theorem do_appA {w0 w : World} {p b q g xb : Nat} {B R : HB} {H HR : HT} {cs : Array Value} (h : Two w0 w p b q g B R H HR) (hx : w.heap[xb]? = some (.cells cs 39 (0, 0))) (d : ByteArray) (hd : d.size ≤ 140737488355328) : ∀ W, Only [] w W →
    Calls Tryz.prog 10 #[.pointer (some ⟨B.h, 0, none⟩), .string d] W fun e w' => e = .returned (.int .i64 (H.append d.data.toList).2) ∧ w'.heap[xb]? = some (.cells cs 39 (0, 0)) ∧ ∃ B' : HB, B'.h = B.h ∧ Two w0 w' p b q g B' R (H.append d.data.toList).1 HR := fun W hW => by
  refine (happend_of (h.keep hW).a d hd).mono ?_
  intro e w' hp
  obtain ⟨he, ho, B', hB', h2⟩ := (h.keep hW).stepA hp
  exact ⟨he, ho.blk (hW.blk hx (by simp)) (two_xb h hx).1, B', hB', h2⟩
theorem do_appR {w0 w : World} {p b q g xb : Nat} {B R : HB} {H HA : HT} {cs : Array Value} (h : Two w0 w p b q g B R HA H) (hx : w.heap[xb]? = some (.cells cs 39 (0, 0))) (d : ByteArray) (hd : d.size ≤ 140737488355328) : ∀ W, Only [] w W →
    Calls Tryz.prog 11 #[.pointer (some ⟨R.h, 0, none⟩), .string d] W fun e w' => e = .returned (.int .i64 (H.append d.data.toList).2) ∧ w'.heap[xb]? = some (.cells cs 39 (0, 0)) ∧ ∃ R' : HB, R'.h = R.h ∧ Two w0 w' p b q g B R' HA (H.append d.data.toList).1 := fun W hW => by
  refine (Rappend_of (h.keep hW).r d hd).mono ?_
  intro e w' hp
  obtain ⟨he, ho, R', hR', h2⟩ := (h.keep hW).stepR hp
  exact ⟨he, ho.blk (hW.blk hx (by simp)) (two_xb h hx).2, R', hR', h2⟩
theorem do_coA {w0 w : World} {p b q g xb : Nat} {B R : HB} {H HR : HT} {cs : Array Value} (h : Two w0 w p b q g B R H HR) (hx : w.heap[xb]? = some (.cells cs 39 (0, 0))) (hvar : Vars w0) {x : ActH} (hok : ActOk w0 x) (hor : wideL x.l = true ∨ x.l.length ≤ 200) : ∀ W, Only [] w W →
    Calls Tryz.prog 12 #[.pointer (some ⟨B.h, 0, none⟩), x.v] W fun e w' => e = .returned (.int .i64 (H.compact x.l).2) ∧ w'.heap[xb]? = some (.cells cs 39 (0, 0)) ∧ ∃ B' : HB, B'.h = B.h ∧ Two w0 w' p b q g B' R (H.compact x.l).1 HR := fun W hW => by
  have hk := h.keep hW
  have hbh := (h.d B.h (by simp [HB.own])).1
  have hl := hok.l
  have hxx : ∀ y ∈ x.l, y.length ≤ 140737488355328 := fun y hy => by have := hok.x y hy; omega
  have hc : Calls Tryz.prog 12 #[.pointer (some ⟨B.h, 0, none⟩), x.v] W (HapPost B p b (H.compact x.l).1 (H.compact x.l).2 W) := by
    rcases hor with hw | hw
    · exact compact_wide hk.a (hok.row.keep hk.on) (by omega) hxx hw
    · exact compact_of hk.a (hvar.only hk.on) (row_argA hok.row hk.on h.pb.1 h.pb.2.1) (row_argA hok.row hk.on hbh hbh) (by omega) hxx
  refine hc.mono ?_
  intro e w' hp
  obtain ⟨he, ho, B', hB', h2⟩ := hk.stepA hp
  exact ⟨he, ho.blk (hW.blk hx (by simp)) (two_xb h hx).1, B', hB', h2⟩
theorem do_coR {w0 w : World} {p b q g xb : Nat} {B R : HB} {H HA : HT} {cs : Array Value} (h : Two w0 w p b q g B R HA H) (hx : w.heap[xb]? = some (.cells cs 39 (0, 0))) {x : ActH} (hok : ActOk w0 x) (hor : wideL x.l = true ∨ x.l.length ≤ 200) : ∀ W, Only [] w W →
    Calls Tryz.prog 13 #[.pointer (some ⟨R.h, 0, none⟩), x.v] W fun e w' => e = .returned (.int .i64 (H.compact x.l).2) ∧ w'.heap[xb]? = some (.cells cs 39 (0, 0)) ∧ ∃ R' : HB, R'.h = R.h ∧ Two w0 w' p b q g B R' HA (H.compact x.l).1 := fun W hW => by
  have hk := h.keep hW
  have hrh := (h.e R.h (by simp [HB.own])).1
  have hl := hok.l
  have hxx : ∀ y ∈ x.l, y.length ≤ 140737488355328 := fun y hy => by have := hok.x y hy; omega
  refine (Rcompact_of hk.r (row_argA hok.row hk.on h.pb.2.2.1 h.pb.2.2.2) (row_argA hok.row hk.on hrh hrh) hl hxx (by rcases hor with h | h; exact Or.inl h; exact Or.inr (by omega)) hok.z).mono ?_
  intro e w' hp
  obtain ⟨he, ho, R', hR', h2⟩ := hk.stepR hp
  exact ⟨he, ho.blk (hW.blk hx (by simp)) (two_xb h hx).2, R', hR', h2⟩
def OpA2 (w0 w : World) (p b q g : Nat) (s : St) (hv : Value) (w' : World) : Prop := St2 w0 w' p b q g (opS s) s ∧ (opS s).n = s.n ∧ Only [p, b] w w' ∧
  ((opC s ≠ 0 ∧ hv = .pointer none) ∨ (opC s = 0 ∧ ∃ B : HB, hv = .pointer (some ⟨B.h, 0, none⟩) ∧ HalIs w' B p b (openH s).1 ∧ ∀ x, x ∈ B.own → w.heap.size ≤ x))
theorem OpA.val {w0 w w' : World} {p b q g : Nat} {s : St} {e : Ending} (h : OpA w0 w p b q g s s e w') : ∃ hv, e = .returned (.tuple #[hv, .int .i64 (opC s)]) ∧ OpA2 w0 w p b q g s hv w' := by
  obtain ⟨h1, h2, h3, (⟨h4, rfl⟩ | ⟨h4, B, rfl, h5, h6⟩)⟩ := h
  · exact ⟨_, rfl, h1, h2, h3, Or.inl ⟨h4, rfl⟩⟩
  · exact ⟨.pointer (some ⟨B.h, 0, none⟩), by rw [h4], h1, h2, h3, Or.inr ⟨h4, B, rfl, h5, h6⟩⟩
theorem open_both {w0 w w1 w2 : World} {p b q g : Nat} {s : St} {hv : Value} {e : Ending} (h0 : St2 w0 w p b q g s s) (hA : OpA2 w0 w p b q g s hv w1) (hR : OpR w0 w1 p b q g (opS s) s e w2) : ∃ rv, e = .returned (.tuple #[rv, .int .i64 (opC s)]) ∧ DoIn w0 w2 p b q g s.n hv rv := by
  obtain ⟨a1, a2, a3, a4⟩ := hA
  obtain ⟨r1, r2, r3, r4⟩ := hR
  rcases a4 with ⟨hc, rfl⟩ | ⟨hc, B, rfl, hB, hb⟩
  · rcases r4 with ⟨_, rfl⟩ | ⟨h, _⟩
    · exact ⟨_, rfl, Or.inl ⟨rfl, rfl, _, r1, r2⟩⟩
    · exact absurd h hc
  · rcases r4 with ⟨h, _⟩ | ⟨_, R, rfl, hR, hr⟩
    · exact absurd hc h
    · exact ⟨.pointer (some ⟨R.h, 0, none⟩), by rw [hc], DoIn.opened h0 hc a3 hB hb r3 hR hr r1 r2⟩
set_option maxHeartbeats 8000000 in
set_option maxRecDepth 100000 in
theorem HalvesDo_walk (a1 : Int) (v : Value) (l : List ActH) (w : World) (hvar : Vars w) (ha1 : (Lit.int .i64 a1).wf = true) (hv : RowH w v l) (hl : l.length ≤ 140737488351232) (hx : ∀ x ∈ l, ActOk w x) :
    Calls Tryz.prog 3 #[.int .i64 a1, v] w fun e w' => e = .returned (.bool true) ∧ Below w.heap.size w w' := by
  obtain ⟨a, ca, rfl, hc⟩ := hv
  obtain ⟨L, hL⟩ : ∃ L, L = l.length := ⟨_, rfl⟩
  rw [← hL] at hl ⊢
  have HL := Lib.hid hL
  have HC := Lib.hid hc
  have HX := Lib.hid hx
  have HVA := Lib.hid hvar
  clear hL hc hx hvar ha1
  by_cases hgood : 1 ≤ a1 ∧ a1 ≤ 256
  · obtain ⟨n, rfl⟩ : ∃ n : Nat, a1 = (n : Int) := ⟨a1.toNat, by omega⟩
    have hn1 : 1 ≤ n := by omega
    have hn2 : n ≤ 256 := by omega
    clear hgood
    go_enter Tryz.func3, Tryz.ntmps3
    go_wp2_with fail
    refine (hawake_of w HVA.out).mono ?_
    rintro e w1 ⟨rfl, ho1⟩
    have HO1 := Lib.hid ho1
    clear ho1
    have HN := Lib.hid (new_up n hn1 hn2 w1)
    obtain ⟨p, hp⟩ : ∃ p, p = w1.heap.size + 1 := ⟨_, rfl⟩
    obtain ⟨b, hb⟩ : ∃ b, b = w1.heap.size := ⟨_, rfl⟩
    rw [← hp, ← hb] at HN
    have HPB : Hid (w.heap.size ≤ p ∧ w.heap.size ≤ b) := by show _ ∧ _; have := HO1.out.size; omega
    clear hp hb
    go_wp2_with fail
    refine (HN.out).mono ?_
    rintro e w2 ⟨rfl, hs2, ho2⟩
    have HS2 := Lib.hid hs2
    have HO2 : Hid (Only [] w w2) := HO1.out.tr ho2
    clear hs2 ho2 HN HO1
    go_wp2_with fail
    refine (RNew_ok n hn1 hn2 w2).mono ?_
    rintro e w3 ⟨rfl, g, hg, hs3, ho3⟩
    obtain ⟨q, hq⟩ : ∃ q, q = w2.heap.size := ⟨_, rfl⟩
    rw [← hq] at hs3 ⊢
    have HT3 : Hid (St2 w w3 p b q g (St.new n) (St.new n)) := by
      have h1 := HS2.out.lt
      have h2 := HO2.out.size
      exact ⟨HS2.out.only ho3 (by simp) (by simp), hs3, ⟨HPB.out.1, HPB.out.2, by omega, by omega⟩, ⟨by omega, by omega, by omega, by omega⟩, HO2.out.tr ho3⟩
    clear hg hs3 ho3 HS2 HO2 hq
    go_wp2_with fail
    refine (do_openA HT3.out HVA.out).mono ?_
    intro e w4 h4
    obtain ⟨hv, rfl, h4b⟩ := h4.val
    have HA4 := Lib.hid h4b
    clear h4 h4b
    go_wp2_with fail
    refine (do_openR HA4.out.1).mono ?_
    intro e w5 h5
    obtain ⟨rv, rfl, hd⟩ := open_both HT3.out HA4.out h5
    have HI : Hid (DoIn w w5 p b q g n hv rv) := hd
    clear h5 hd HA4 HT3
    go_upto_region 9 with (fail)
    generalize opC (St.new n) = cc at *
    go_cut [58] (fun c wc => c = .bool false ∧ wc = w5)
    case first =>
      rcases HI.out with ⟨rfl, rfl, _⟩ | ⟨B, R, H, rfl, rfl, _⟩
      · go_wp2_with fail
        go_meet
        case rel => exact ⟨rfl, rfl⟩
      · go_wp2_with fail
        go_meet
        case rel => exact ⟨rfl, rfl⟩
    case rest =>
      obtain ⟨rfl, hwc⟩ := hcut
      subst wc
      go_wp2_with fail
      go_loopw [9, 11, 13] (fun hv rv i wq => ∃ k : Nat, i = .int .i64 (k : Int) ∧ k ≤ L ∧ Hid (DoIn w wq p b q g n hv rv)) (fun _ _ i _ => L - (intOf i).toNat)
      case atStart => exact ⟨0, rfl, Nat.zero_le _, HI⟩
      case round =>
        clear HI
        obtain ⟨k, rfl, hk, HI⟩ := hrel
        by_cases hkL : k < L
        · by_cases hk40 : k < 40
          · obtain ⟨x, hx⟩ : ∃ x, l[k]? = some x := ⟨_, List.getElem?_eq_getElem (by have := HL.out; omega)⟩
            obtain ⟨ad, rfl, b0, b1, b2, b3, b4⟩ := HC.out k x hx
            have b0 := cell_stay b0 HI.out.on
            have b1 := cell_stay b1 HI.out.on
            have b2 := cell_stay b2 HI.out.on
            have b3 := cell_stay b3 HI.out.on
            have b4 := cell_stay b4 HI.out.on
            unfold strV at b3
            have hok := HX.out x (List.mem_of_getElem? hx)
            have HOK := Lib.hid hok
            obtain ⟨TX, hTX⟩ : ∃ TX, TX = mkS x.t := ⟨_, rfl⟩
            rw [← hTX] at b3
            have hTs : TX.size = x.t.length := by rw [hTX, size_mkS]
            have hTd : TX.data.toList = x.t := by rw [hTX, list_mkS]
            have HTX : Hid (TX.size = x.t.length ∧ TX.data.toList = x.t ∧ TX.size ≤ 140737488355328) := ⟨hTs, hTd, by have := hok.t; omega⟩
            have HLG := Lib.hid (large_of x TX hTs (wr.alloc (.cells #[.int .i64 x.k, .int .i64 x.n, .int .i64 x.m, .string TX, x.v] 39)) (hok.keep (HI.out.on.alloc _)))
            obtain ⟨av, ac, hav, _⟩ := hok.row
            obtain ⟨XN, hXN⟩ : ∃ XN, XN = x.l.length := ⟨_, rfl⟩
            rw [hav, ← hXN] at b4 HLG
            have HAV : Hid (x.v = .slice av XN ac) := by show _ = _; rw [hav, hXN]
            have HXN := Lib.hid hXN
            have hc0 : (0 : Int) ≤ (k : Int) := by omega
            have hc1 : ((k : Int) < (L : Int)) := by omega
            have hc2 : ((k : Int) < 40) := by omega
            have hwr : IntKind.i64.wrap ((k : Int) + 1) = (k : Int) + 1 := IntWalk.i64_in _ (by omega)
            have HXNN : Hid (x.n ≤ 9223372036854775807) := hok.n
            obtain ⟨xk, hxk⟩ : ∃ xk, xk = x.k := ⟨_, rfl⟩
            obtain ⟨xn, hxn⟩ : ∃ xn, xn = x.n := ⟨_, rfl⟩
            obtain ⟨xm, hxm⟩ : ∃ xm, xm = x.m := ⟨_, rfl⟩
            rw [← hxk] at b0 HLG
            rw [← hxn] at b1 HLG HXNN
            rw [← hxm] at b2 HLG
            clear hx hTX hok hTs hTd hav hXN hxk hxn hxm
            go_wp2_with fail
            refine (HLG.out).mono ?_
            rintro e w7 ⟨big, rfl, ho7, hbig⟩
            have hO7 : Only [] wr w7 := ((Only.refl [] wr).alloc _).tr ho7
            have hblk : w7.heap[wr.heap.size]? = some (.cells #[.int .i64 xk, .int .i64 xn, .int .i64 xm, .string TX, .slice av XN ac] 39 (0, 0)) := ho7.blk (blk_new wr _) (by simp)
            have HBK := Lib.hid hblk
            have HBG := Lib.hid hbig
            have HI7 := Lib.hid (HI.out.keep hO7)
            clear ho7 hO7 hbig hblk b0 b1 b2 b3 b4 HLG HI
            obtain ⟨xb, hxb⟩ : ∃ xb, xb = wr.heap.size := ⟨_, rfl⟩
            rw [← hxb] at HBK ⊢
            clear hxb
            cases big with
            | true =>
              go_wp2_with fail
              go_ret
              exact ⟨rfl, HI7.out.on.below (Nat.le_refl _) (by simp)⟩
            | false =>
              have c0 : w7.cell? ⟨xb, 0, none⟩ = some (.int .i64 xk) := blk_cell HBK.out 0
              have c1 : w7.cell? ⟨xb, 1, none⟩ = some (.int .i64 xn) := blk_cell HBK.out 1
              have c2 : w7.cell? ⟨xb, 2, none⟩ = some (.int .i64 xm) := blk_cell HBK.out 2
              have c3 : w7.cell? ⟨xb, 3, none⟩ = some (.string TX) := blk_cell HBK.out 3
              have c4 : w7.cell? ⟨xb, 4, none⟩ = some (.slice av XN ac) := blk_cell HBK.out 4
              go_upto_block 2 with (fail)
              go_cut [9, 11] (fun hv rv wc => Hid (DoIn w wc p b q g n hv rv))
              case first =>
                by_cases h01 : xk = 0 ∨ xk = 1
                · have hk01 : (xk == 0) = true ∨ ((xk == 0) = false ∧ (xk == 1) = true) := by
                    rcases h01 with rfl | rfl
                    · exact Or.inl rfl
                    · exact Or.inr ⟨rfl, rfl⟩
                  clear h01
                  rcases HI7.out with ⟨e1, e2, _⟩ | ⟨B, R, H, e1, e2, htw, hsn⟩
                  · as_aux_lemma =>
                    subst e1 e2
                    have hund : undef = Value.tuple #[] := rfl
                    rcases hk01 with n0 | ⟨n0, n1⟩
                    · go_wp2_with fail
                      refine wp_region_held_drew (S := (fun _ => True)) (by kernel_rfl) (by trivial) (fun hHeld => ?_)
                      (refine wpAnyH_take2 (i := 0) (d := some 80) (v := ?_) rfl rfl (by kernel_rfl) (by kernel_rfl) (by kernel_rfl) (fun _ _ _ h => h) (Or.inl ⟨by rfl, ?_⟩) (by assumption) ?_; rotate_left; focus (intro w_ hSw_; (try dsimp only at hSw_); go_simp; try with_reducible rfl); try simp only [Act.put, List.setIfInBounds_toArray, List.set_cons_zero, List.set_cons_succ])
                      (refine wpAnyH_take2 (i := 1) (d := some 81) (v := ?_) rfl rfl (by kernel_rfl) (by kernel_rfl) (by kernel_rfl) (fun _ _ _ h => h) (Or.inl ⟨by rfl, ?_⟩) (by assumption) ?_; rotate_left; focus (intro w_ hSw_; (try dsimp only at hSw_); go_simp; try with_reducible rfl); try simp only [Act.put, List.setIfInBounds_toArray, List.set_cons_zero, List.set_cons_succ])
                      (refine wpAnyH_take2 (i := 2) (d := some 82) (v := ?_) rfl rfl (by kernel_rfl) (by kernel_rfl) (by kernel_rfl) (fun _ _ _ h => h) (Or.inl ⟨by rfl, ?_⟩) (by assumption) ?_; rotate_left; focus (intro w_ hSw_; (try dsimp only at hSw_); go_simp; try with_reducible rfl); try simp only [Act.put, List.setIfInBounds_toArray, List.set_cons_zero, List.set_cons_succ])
                      (refine wpAnyH_take2 (i := 3) (d := some 83) (v := undef) rfl rfl (by kernel_rfl) (by kernel_rfl) (by kernel_rfl) (fun _ _ _ h => h) (Or.inr ⟨by kernel_rfl, rfl⟩) (by assumption) ?_; try simp only [Act.put, List.setIfInBounds_toArray, List.set_cons_zero, List.set_cons_succ])
                      (refine wpAnyH_take2 (i := 4) (d := some 84) (v := undef) rfl rfl (by kernel_rfl) (by kernel_rfl) (by kernel_rfl) (fun _ _ _ h => h) (Or.inr ⟨by kernel_rfl, rfl⟩) (by assumption) ?_; try simp only [Act.put, List.setIfInBounds_toArray, List.set_cons_zero, List.set_cons_succ])
                      (refine wpAnyH_take2 (i := 5) (d := some 85) (v := undef) rfl rfl (by kernel_rfl) (by kernel_rfl) (by kernel_rfl) (fun _ _ _ h => h) (Or.inr ⟨by kernel_rfl, rfl⟩) (by assumption) ?_; try simp only [Act.put, List.setIfInBounds_toArray, List.set_cons_zero, List.set_cons_succ])
                      (refine wpAnyH_take2 (i := 6) (d := some 86) (v := undef) rfl rfl (by kernel_rfl) (by kernel_rfl) (by kernel_rfl) (fun _ _ _ h => h) (Or.inr ⟨by kernel_rfl, rfl⟩) (by assumption) ?_; try simp only [Act.put, List.setIfInBounds_toArray, List.set_cons_zero, List.set_cons_succ])
                      (refine wpAnyH_take2 (i := 7) (d := some 87) (v := undef) rfl rfl (by kernel_rfl) (by kernel_rfl) (by kernel_rfl) (fun _ _ _ h => h) (Or.inr ⟨by kernel_rfl, rfl⟩) (by assumption) ?_; try simp only [Act.put, List.setIfInBounds_toArray, List.set_cons_zero, List.set_cons_succ])
                      (refine wpAnyH_take2 (i := 8) (d := some 88) (v := undef) rfl rfl (by kernel_rfl) (by kernel_rfl) (by kernel_rfl) (fun _ _ _ h => h) (Or.inr ⟨by kernel_rfl, rfl⟩) (by assumption) ?_; try simp only [Act.put, List.setIfInBounds_toArray, List.set_cons_zero, List.set_cons_succ])
                      (refine wpAnyH_take2 (i := 9) (d := some 89) (v := undef) rfl rfl (by kernel_rfl) (by kernel_rfl) (by kernel_rfl) (fun _ _ _ h => h) (Or.inr ⟨by kernel_rfl, rfl⟩) (by assumption) ?_; try simp only [Act.put, List.setIfInBounds_toArray, List.set_cons_zero, List.set_cons_succ])
                      (refine wpAnyH_take2 (i := 10) (d := some 90) (v := undef) rfl rfl (by kernel_rfl) (by kernel_rfl) (by kernel_rfl) (fun _ _ _ h => h) (Or.inr ⟨by kernel_rfl, rfl⟩) (by assumption) ?_; try simp only [Act.put, List.setIfInBounds_toArray, List.set_cons_zero, List.set_cons_succ])
                      (refine wpAnyH_take2 (i := 11) (d := some 91) (v := undef) rfl rfl (by kernel_rfl) (by kernel_rfl) (by kernel_rfl) (fun _ _ _ h => h) (Or.inr ⟨by kernel_rfl, rfl⟩) (by assumption) ?_; try simp only [Act.put, List.setIfInBounds_toArray, List.set_cons_zero, List.set_cons_succ])
                      (refine wpAnyH_take2 (i := 12) (d := some 92) (v := ?_) rfl rfl (by kernel_rfl) (by kernel_rfl) (by kernel_rfl) (fun _ _ _ h => h) (Or.inl ⟨by rfl, ?_⟩) (by assumption) ?_; rotate_left; focus (intro w_ hSw_; (try dsimp only at hSw_); go_simp; try with_reducible rfl); try simp only [Act.put, List.setIfInBounds_toArray, List.set_cons_zero, List.set_cons_succ])
                      refine wpAnyH_done (by kernel_rfl) ?_ _
                      go_wp2_with fail
                      go_meet
                      exact Lib.hid (HI7.out.keep ((Only.refl [] w7).drew))
                    · go_wp2_with fail
                      refine wp_region_held_drew (S := (fun _ => True)) (by kernel_rfl) (by trivial) (fun hHeld => ?_)
                      (refine wpAnyH_take2 (i := 0) (d := some 80) (v := ?_) rfl rfl (by kernel_rfl) (by kernel_rfl) (by kernel_rfl) (fun _ _ _ h => h) (Or.inl ⟨by rfl, ?_⟩) (by assumption) ?_; rotate_left; focus (intro w_ hSw_; (try dsimp only at hSw_); go_simp; try with_reducible rfl); try simp only [Act.put, List.setIfInBounds_toArray, List.set_cons_zero, List.set_cons_succ])
                      (refine wpAnyH_take2 (i := 1) (d := some 81) (v := ?_) rfl rfl (by kernel_rfl) (by kernel_rfl) (by kernel_rfl) (fun _ _ _ h => h) (Or.inl ⟨by rfl, ?_⟩) (by assumption) ?_; rotate_left; focus (intro w_ hSw_; (try dsimp only at hSw_); go_simp; try with_reducible rfl); try simp only [Act.put, List.setIfInBounds_toArray, List.set_cons_zero, List.set_cons_succ])
                      (refine wpAnyH_take2 (i := 2) (d := some 82) (v := ?_) rfl rfl (by kernel_rfl) (by kernel_rfl) (by kernel_rfl) (fun _ _ _ h => h) (Or.inl ⟨by rfl, ?_⟩) (by assumption) ?_; rotate_left; focus (intro w_ hSw_; (try dsimp only at hSw_); go_simp; try with_reducible rfl); try simp only [Act.put, List.setIfInBounds_toArray, List.set_cons_zero, List.set_cons_succ])
                      (refine wpAnyH_take2 (i := 3) (d := some 83) (v := undef) rfl rfl (by kernel_rfl) (by kernel_rfl) (by kernel_rfl) (fun _ _ _ h => h) (Or.inr ⟨by kernel_rfl, rfl⟩) (by assumption) ?_; try simp only [Act.put, List.setIfInBounds_toArray, List.set_cons_zero, List.set_cons_succ])
                      (refine wpAnyH_take2 (i := 4) (d := some 84) (v := undef) rfl rfl (by kernel_rfl) (by kernel_rfl) (by kernel_rfl) (fun _ _ _ h => h) (Or.inr ⟨by kernel_rfl, rfl⟩) (by assumption) ?_; try simp only [Act.put, List.setIfInBounds_toArray, List.set_cons_zero, List.set_cons_succ])
                      (refine wpAnyH_take2 (i := 5) (d := some 85) (v := undef) rfl rfl (by kernel_rfl) (by kernel_rfl) (by kernel_rfl) (fun _ _ _ h => h) (Or.inr ⟨by kernel_rfl, rfl⟩) (by assumption) ?_; try simp only [Act.put, List.setIfInBounds_toArray, List.set_cons_zero, List.set_cons_succ])
                      (refine wpAnyH_take2 (i := 6) (d := some 86) (v := undef) rfl rfl (by kernel_rfl) (by kernel_rfl) (by kernel_rfl) (fun _ _ _ h => h) (Or.inr ⟨by kernel_rfl, rfl⟩) (by assumption) ?_; try simp only [Act.put, List.setIfInBounds_toArray, List.set_cons_zero, List.set_cons_succ])
                      (refine wpAnyH_take2 (i := 7) (d := some 87) (v := undef) rfl rfl (by kernel_rfl) (by kernel_rfl) (by kernel_rfl) (fun _ _ _ h => h) (Or.inr ⟨by kernel_rfl, rfl⟩) (by assumption) ?_; try simp only [Act.put, List.setIfInBounds_toArray, List.set_cons_zero, List.set_cons_succ])
                      (refine wpAnyH_take2 (i := 8) (d := some 88) (v := undef) rfl rfl (by kernel_rfl) (by kernel_rfl) (by kernel_rfl) (fun _ _ _ h => h) (Or.inr ⟨by kernel_rfl, rfl⟩) (by assumption) ?_; try simp only [Act.put, List.setIfInBounds_toArray, List.set_cons_zero, List.set_cons_succ])
                      (refine wpAnyH_take2 (i := 9) (d := some 89) (v := undef) rfl rfl (by kernel_rfl) (by kernel_rfl) (by kernel_rfl) (fun _ _ _ h => h) (Or.inr ⟨by kernel_rfl, rfl⟩) (by assumption) ?_; try simp only [Act.put, List.setIfInBounds_toArray, List.set_cons_zero, List.set_cons_succ])
                      (refine wpAnyH_take2 (i := 10) (d := some 90) (v := undef) rfl rfl (by kernel_rfl) (by kernel_rfl) (by kernel_rfl) (fun _ _ _ h => h) (Or.inr ⟨by kernel_rfl, rfl⟩) (by assumption) ?_; try simp only [Act.put, List.setIfInBounds_toArray, List.set_cons_zero, List.set_cons_succ])
                      (refine wpAnyH_take2 (i := 11) (d := some 91) (v := undef) rfl rfl (by kernel_rfl) (by kernel_rfl) (by kernel_rfl) (fun _ _ _ h => h) (Or.inr ⟨by kernel_rfl, rfl⟩) (by assumption) ?_; try simp only [Act.put, List.setIfInBounds_toArray, List.set_cons_zero, List.set_cons_succ])
                      (refine wpAnyH_take2 (i := 12) (d := some 92) (v := ?_) rfl rfl (by kernel_rfl) (by kernel_rfl) (by kernel_rfl) (fun _ _ _ h => h) (Or.inl ⟨by rfl, ?_⟩) (by assumption) ?_; rotate_left; focus (intro w_ hSw_; (try dsimp only at hSw_); go_simp; try with_reducible rfl); try simp only [Act.put, List.setIfInBounds_toArray, List.set_cons_zero, List.set_cons_succ])
                      refine wpAnyH_done (by kernel_rfl) ?_ _
                      go_wp2_with fail
                      go_meet
                      exact Lib.hid (HI7.out.keep ((Only.refl [] w7).drew))
                  · as_aux_lemma =>
                    subst e1 e2
                    have HAP := Lib.hid (do_appA htw HBK.out TX HTX.out.2.2)
                    have HNN : Hid ((H.append TX.data.toList).1.J.s.n = n) := (happ_n htw.a _).trans hsn
                    have HRR := Lib.hid (fun (w8 : World) (B' : HB) (h8 : Two w w8 p b q g B' R (H.append TX.data.toList).1 H) (hb8 : w8.heap[xb]? = some (.cells #[.int .i64 xk, .int .i64 xn, .int .i64 xm, .string TX, .slice av XN ac] 39 (0, 0))) => do_appR h8 hb8 TX HTX.out.2.2)
                    clear htw hsn
                    generalize H.append TX.data.toList = r at *
                    rcases hk01 with n0 | ⟨n0, n1⟩
                    all_goals go_wp2_with fail
                    all_goals go_region_held3 (fun w' => w'.cell? ⟨xb, 3, none⟩ = some (.string TX))
                      (go_keep)
                      (first
                        | (go_at_call 10; refine (HAP.out _ ((Only.refl [] _).drew)).mono ?_; rintro e w8 ⟨rfl, hb8, B', hB', h8⟩; have d3 : w8.cell? ⟨xb, 3, none⟩ = some (.string TX) := blk_cell hb8 3; have HBP := Lib.hid (HRR.out w8 B' h8 hb8); have HBH := Lib.hid hB'; clear hb8 hB' h8)
                        | (go_at_call 11; refine (HBP.out _ (Only.refl [] _)).mono ?_; rintro e w9 ⟨rfl, hb9, R', hR', h9⟩; have d3 : w9.cell? ⟨xb, 3, none⟩ = some (.string TX) := blk_cell hb9 3; have HT9 := Lib.hid h9; have HRH := Lib.hid hR'; clear hb9 hR' h9))
                    all_goals have HD9 : Hid (DoIn w w9 p b q g n (.pointer (some ⟨B.h, 0, none⟩)) (.pointer (some ⟨R.h, 0, none⟩))) := Or.inr ⟨B', R', r.1, by rw [HBH.out], by rw [HRH.out], HT9.out, HNN.out⟩
                    all_goals clear HT9 HBP HAP HRR
                    all_goals go_wp2_with fail
                    all_goals go_meet
                    all_goals exact HD9
                · have n0 : (xk == 0) = false := beq_eq_false_iff_ne.mpr (fun e => h01 (Or.inl e))
                  have n1 : (xk == 1) = false := beq_eq_false_iff_ne.mpr (fun e => h01 (Or.inr e))
                  clear h01
                  by_cases h2 : xk = 2
                  · have n2 : (xk == 2) = true := beq_iff_eq.mpr h2
                    clear h2
                    rcases HI7.out with ⟨e1, e2, _⟩ | ⟨B, R, H, e1, e2, htw, hsn⟩
                    · as_aux_lemma =>
                      subst e1 e2
                      have hund : undef = Value.tuple #[] := rfl
                      go_wp2_with fail
                      refine wp_region_held_drew (S := (fun _ => True)) (by kernel_rfl) (by trivial) (fun hHeld => ?_)
                      (refine wpAnyH_take2 (i := 0) (d := some 95) (v := ?_) rfl rfl (by kernel_rfl) (by kernel_rfl) (by kernel_rfl) (fun _ _ _ h => h) (Or.inl ⟨by rfl, ?_⟩) (by assumption) ?_; rotate_left; focus (intro w_ hSw_; (try dsimp only at hSw_); go_simp; try with_reducible rfl); try simp only [Act.put, List.setIfInBounds_toArray, List.set_cons_zero, List.set_cons_succ])
                      (refine wpAnyH_take2 (i := 1) (d := some 96) (v := ?_) rfl rfl (by kernel_rfl) (by kernel_rfl) (by kernel_rfl) (fun _ _ _ h => h) (Or.inl ⟨by rfl, ?_⟩) (by assumption) ?_; rotate_left; focus (intro w_ hSw_; (try dsimp only at hSw_); go_simp; try with_reducible rfl); try simp only [Act.put, List.setIfInBounds_toArray, List.set_cons_zero, List.set_cons_succ])
                      (refine wpAnyH_take2 (i := 2) (d := some 97) (v := ?_) rfl rfl (by kernel_rfl) (by kernel_rfl) (by kernel_rfl) (fun _ _ _ h => h) (Or.inl ⟨by rfl, ?_⟩) (by assumption) ?_; rotate_left; focus (intro w_ hSw_; (try dsimp only at hSw_); go_simp; try with_reducible rfl); try simp only [Act.put, List.setIfInBounds_toArray, List.set_cons_zero, List.set_cons_succ])
                      (refine wpAnyH_take2 (i := 3) (d := some 98) (v := undef) rfl rfl (by kernel_rfl) (by kernel_rfl) (by kernel_rfl) (fun _ _ _ h => h) (Or.inr ⟨by kernel_rfl, rfl⟩) (by assumption) ?_; try simp only [Act.put, List.setIfInBounds_toArray, List.set_cons_zero, List.set_cons_succ])
                      (refine wpAnyH_take2 (i := 4) (d := some 99) (v := undef) rfl rfl (by kernel_rfl) (by kernel_rfl) (by kernel_rfl) (fun _ _ _ h => h) (Or.inr ⟨by kernel_rfl, rfl⟩) (by assumption) ?_; try simp only [Act.put, List.setIfInBounds_toArray, List.set_cons_zero, List.set_cons_succ])
                      (refine wpAnyH_take2 (i := 5) (d := some 100) (v := undef) rfl rfl (by kernel_rfl) (by kernel_rfl) (by kernel_rfl) (fun _ _ _ h => h) (Or.inr ⟨by kernel_rfl, rfl⟩) (by assumption) ?_; try simp only [Act.put, List.setIfInBounds_toArray, List.set_cons_zero, List.set_cons_succ])
                      (refine wpAnyH_take2 (i := 6) (d := some 101) (v := undef) rfl rfl (by kernel_rfl) (by kernel_rfl) (by kernel_rfl) (fun _ _ _ h => h) (Or.inr ⟨by kernel_rfl, rfl⟩) (by assumption) ?_; try simp only [Act.put, List.setIfInBounds_toArray, List.set_cons_zero, List.set_cons_succ])
                      (refine wpAnyH_take2 (i := 7) (d := some 102) (v := undef) rfl rfl (by kernel_rfl) (by kernel_rfl) (by kernel_rfl) (fun _ _ _ h => h) (Or.inr ⟨by kernel_rfl, rfl⟩) (by assumption) ?_; try simp only [Act.put, List.setIfInBounds_toArray, List.set_cons_zero, List.set_cons_succ])
                      (refine wpAnyH_take2 (i := 8) (d := some 103) (v := undef) rfl rfl (by kernel_rfl) (by kernel_rfl) (by kernel_rfl) (fun _ _ _ h => h) (Or.inr ⟨by kernel_rfl, rfl⟩) (by assumption) ?_; try simp only [Act.put, List.setIfInBounds_toArray, List.set_cons_zero, List.set_cons_succ])
                      (refine wpAnyH_take2 (i := 9) (d := some 104) (v := undef) rfl rfl (by kernel_rfl) (by kernel_rfl) (by kernel_rfl) (fun _ _ _ h => h) (Or.inr ⟨by kernel_rfl, rfl⟩) (by assumption) ?_; try simp only [Act.put, List.setIfInBounds_toArray, List.set_cons_zero, List.set_cons_succ])
                      (refine wpAnyH_take2 (i := 10) (d := some 105) (v := undef) rfl rfl (by kernel_rfl) (by kernel_rfl) (by kernel_rfl) (fun _ _ _ h => h) (Or.inr ⟨by kernel_rfl, rfl⟩) (by assumption) ?_; try simp only [Act.put, List.setIfInBounds_toArray, List.set_cons_zero, List.set_cons_succ])
                      (refine wpAnyH_take2 (i := 11) (d := some 106) (v := undef) rfl rfl (by kernel_rfl) (by kernel_rfl) (by kernel_rfl) (fun _ _ _ h => h) (Or.inr ⟨by kernel_rfl, rfl⟩) (by assumption) ?_; try simp only [Act.put, List.setIfInBounds_toArray, List.set_cons_zero, List.set_cons_succ])
                      (refine wpAnyH_take2 (i := 12) (d := some 107) (v := ?_) rfl rfl (by kernel_rfl) (by kernel_rfl) (by kernel_rfl) (fun _ _ _ h => h) (Or.inl ⟨by rfl, ?_⟩) (by assumption) ?_; rotate_left; focus (intro w_ hSw_; (try dsimp only at hSw_); go_simp; try with_reducible rfl); try simp only [Act.put, List.setIfInBounds_toArray, List.set_cons_zero, List.set_cons_succ])
                      refine wpAnyH_done (by kernel_rfl) ?_ _
                      go_wp2_with fail
                      go_meet
                      exact Lib.hid (HI7.out.keep ((Only.refl [] w7).drew))
                    · as_aux_lemma =>
                      subst e1 e2
                      have hcA := do_coA htw HBK.out HVA.out HOK.out (HBG.out trivial)
                      have hcR := fun (w8 : World) (B' : HB) (h8 : Two w w8 p b q g B' R (H.compact x.l).1 H) (hb8 : w8.heap[xb]? = some (.cells #[.int .i64 xk, .int .i64 xn, .int .i64 xm, .string TX, .slice av XN ac] 39 (0, 0))) => do_coR h8 hb8 HOK.out (HBG.out trivial)
                      rw [HAV.out] at hcA
                      have HAP := Lib.hid hcA
                      have HNN : Hid ((H.compact x.l).1.J.s.n = n) := (hcomp_n htw.a _).trans hsn
                      have HRR := Lib.hid hcR
                      rw [HAV.out] at HRR
                      clear htw hsn hcA hcR
                      generalize H.compact x.l = r at *
                      go_wp2_with fail
                      go_region_held3 (fun w' => w'.cell? ⟨xb, 4, none⟩ = some (.slice av XN ac))
                        (go_keep)
                        (first
                          | (go_at_call 12; refine (HAP.out _ ((Only.refl [] _).drew)).mono ?_; rintro e w8 ⟨rfl, hb8, B', hB', h8⟩; have d4 : w8.cell? ⟨xb, 4, none⟩ = some (.slice av XN ac) := blk_cell hb8 4; have HBP := Lib.hid (HRR.out w8 B' h8 hb8); have HBH := Lib.hid hB'; clear hb8 hB' h8)
                          | (go_at_call 13; refine (HBP.out _ (Only.refl [] _)).mono ?_; rintro e w9 ⟨rfl, hb9, R', hR', h9⟩; have d4 : w9.cell? ⟨xb, 4, none⟩ = some (.slice av XN ac) := blk_cell hb9 4; have HT9 := Lib.hid h9; have HRH := Lib.hid hR'; clear hb9 hR' h9))
                      all_goals have HD9 : Hid (DoIn w w9 p b q g n (.pointer (some ⟨B.h, 0, none⟩)) (.pointer (some ⟨R.h, 0, none⟩))) := Or.inr ⟨B', R', r.1, by rw [HBH.out], by rw [HRH.out], HT9.out, HNN.out⟩
                      all_goals clear HT9 HBP HAP HRR
                      all_goals go_wp2_with fail
                      all_goals go_meet
                      all_goals exact HD9
                  · have n2 : (xk == 2) = false := beq_eq_false_iff_ne.mpr h2
                    clear h2
                    by_cases h3 : xk = 3
                    · as_aux_lemma =>
                      have n3 : (xk == 3) = true := beq_iff_eq.mpr h3
                      obtain ⟨s, hst, hsn⟩ := HI7.out.st
                      have HST := Lib.hid hst
                      have HFA := Lib.hid (fuse_of hst.a xn xm HXNN.out)
                      have HSN := Lib.hid hsn
                      have HXB := Lib.hid (st_xb hst HBK.out)
                      clear h3 hst hsn
                      go_wp2_with fail
                      refine (HFA.out).mono ?_
                      rintro e w8 ⟨rfl, hs8, ho8⟩
                      have hb8 := ho8.blk HBK.out (by simp; exact HXB.out.1)
                      have d1 : w8.cell? ⟨xb, 1, none⟩ = some (.int .i64 xn) := blk_cell hb8 1
                      have d2 : w8.cell? ⟨xb, 2, none⟩ = some (.int .i64 xm) := blk_cell hb8 2
                      have HT8 := Lib.hid (HST.out.turnA (ho8.mono (by simp)) hs8)
                      have HO8 : Hid (Only [p, b, q, g] w7 w8) := ho8.mono (by simp)
                      clear hs8 ho8 hb8 HFA c0 c1 c2 c3 c4
                      go_wp2_with fail
                      refine (RFuse_of HT8.out.r xn xm HXNN.out).mono ?_
                      rintro e w9 ⟨rfl, hs9, ho9⟩
                      have HD9 : Hid (DoIn w w9 p b q g n u9 u11) := HI7.out.turn (HO8.out.tr (ho9.mono (by simp))) (HT8.out.turnR (ho9.mono (by simp)) hs9) HSN.out
                      clear hs9 ho9
                      go_wp2_with fail
                      go_meet
                      case rel => exact HD9
                    · have n3 : (xk == 3) = false := beq_eq_false_iff_ne.mpr h3
                      clear h3
                      by_cases h45 : xk = 4 ∨ xk = 5
                      · obtain ⟨s, hst, hsn⟩ := HI7.out.st
                        have HST := Lib.hid hst
                        have HSN := Lib.hid hsn
                        have HXB := Lib.hid (st_xb hst HBK.out)
                        clear hst hsn
                        have hk45 : ((xk == 4) = true ∧ (xk == 5) = false) ∨ ((xk == 4) = false ∧ (xk == 5) = true) := by
                          rcases h45 with rfl | rfl
                          · exact Or.inl ⟨rfl, rfl⟩
                          · exact Or.inr ⟨rfl, rfl⟩
                        clear h45
                        rcases hk45 with ⟨n4, n5⟩ | ⟨n4, n5⟩
                        · as_aux_lemma =>
                          go_wp2_with fail
                          refine (up_of HST.out.a).mono ?_
                          rintro e w8 ⟨rfl, hs8, ho8⟩
                          have HB8 := Lib.hid (ho8.blk HBK.out (by simp; exact HXB.out.1))
                          have HT8 := Lib.hid (HST.out.turnA (ho8.mono (by simp)) hs8)
                          clear hs8 ho8 c0 c1 c2 c3 c4
                          go_wp2_with fail
                          refine (RUp_of HT8.out.r).mono ?_
                          rintro e w9 ⟨rfl, hs9, ho9⟩
                          have hb9 := ho9.blk HB8.out (by simp; exact HXB.out.2.2.1)
                          have d0 : w9.cell? ⟨xb, 0, none⟩ = some (.int .i64 xk) := blk_cell hb9 0
                          have HB9 := Lib.hid hb9
                          have HT9 := Lib.hid (HT8.out.turnR (ho9.mono (by simp)) hs9)
                          have HSN9 : Hid (s.up.n = n) := HSN.out
                          clear hs9 ho9 hb9 HT8 HST
                          go_wp2_with fail
                          refine (do_openA HT9.out HVA.out).mono ?_
                          intro e wA hA
                          obtain ⟨hv, rfl, hA2⟩ := hA.val
                          have HA2 := Lib.hid hA2
                          clear hA hA2
                          go_wp2_with fail
                          refine (do_openR HA2.out.1).mono ?_
                          intro e wB hB
                          obtain ⟨rv, rfl, hd⟩ := open_both HT9.out HA2.out hB
                          have HD := Lib.hid hd
                          rw [HSN9.out] at HD
                          clear hB hd HA2 HT9
                          generalize opC _ = cc at *
                          go_wp2_with fail
                          go_meet
                          case rel => exact HD
                        · as_aux_lemma =>
                          go_wp2_with fail
                          refine (up_of HST.out.a).mono ?_
                          rintro e w8 ⟨rfl, hs8, ho8⟩
                          have HB8 := Lib.hid (ho8.blk HBK.out (by simp; exact HXB.out.1))
                          have HT8 := Lib.hid (HST.out.turnA (ho8.mono (by simp)) hs8)
                          clear hs8 ho8 c0 c1 c2 c3 c4
                          go_wp2_with fail
                          refine (RUp_of HT8.out.r).mono ?_
                          rintro e w9 ⟨rfl, hs9, ho9⟩
                          have hb9 := ho9.blk HB8.out (by simp; exact HXB.out.2.2.1)
                          have d0 : w9.cell? ⟨xb, 0, none⟩ = some (.int .i64 xk) := blk_cell hb9 0
                          have HB9 := Lib.hid hb9
                          have HT9 := Lib.hid (HT8.out.turnR (ho9.mono (by simp)) hs9)
                          have HSN9 : Hid (s.up.n = n) := HSN.out
                          clear hs9 ho9 hb9 HT8 HST
                          have f1 : w9.cell? ⟨xb, 1, none⟩ = some (.int .i64 xn) := blk_cell HB9.out 1
                          have f3 : w9.cell? ⟨xb, 3, none⟩ = some (.string TX) := blk_cell HB9.out 3
                          have HBL := Lib.hid (block_of TX HTX.out.2.2)
                          generalize mkS (blkS TX.data.toList) = BK at *
                          have HWA : Hid (∀ W, Only [] w9 W → Calls Tryz.prog 18 #[.pointer (some ⟨p, 0, none⟩), .int .i64 xn, .string BK] W fun e w' => ∃ c : Int, e = .returned (.int .i64 c) ∧ w'.heap[xb]? = some (.cells #[.int .i64 xk, .int .i64 xn, .int .i64 xm, .string TX, .slice av XN ac] 39 (0, 0)) ∧ St2 w w' p b q g (s.up.write xn BK.data.toList).1 s.up) := fun W hW => by
                            refine (write_of (HT9.out.keep hW).a xn BK).mono ?_
                            rintro e w' ⟨rfl, hs, ho⟩
                            exact ⟨_, rfl, ho.blk (hW.blk HB9.out (by simp)) (by simp; exact ⟨HXB.out.1, HXB.out.2.1⟩), (HT9.out.keep hW).turnA ho hs⟩
                          go_wp2_with fail
                          go_region_held3 (fun w' => w'.cell? ⟨xb, 1, none⟩ = some (.int .i64 xn) ∧ w'.cell? ⟨xb, 3, none⟩ = some (.string TX))
                            (go_keep)
                            (first
                              | (go_at_call 19; refine (HBL.out _).mono ?_; rintro e _ ⟨rfl, rfl⟩)
                              | (go_at_call 18; refine (HWA.out _ ((Only.refl [] _).drew)).mono ?_; rintro e wa ⟨ca, rfl, hba, hta⟩; have g1 : wa.cell? ⟨xb, 1, none⟩ = some (.int .i64 xn) := blk_cell hba 1; have g3 : wa.cell? ⟨xb, 3, none⟩ = some (.string TX) := blk_cell hba 3; have HTA := Lib.hid hta; have HBA := Lib.hid hba; clear hba hta))
                          have HWB : Hid (∀ W, Only [] wa W → Calls Tryz.prog 20 #[.pointer (some ⟨q, 0, none⟩), .int .i64 xn, .string BK] W fun e w' => ∃ c : Int, e = .returned (.int .i64 c) ∧ w'.heap[xb]? = some (.cells #[.int .i64 xk, .int .i64 xn, .int .i64 xm, .string TX, .slice av XN ac] 39 (0, 0)) ∧ St2 w w' p b q g (s.up.write xn BK.data.toList).1 (s.up.write xn BK.data.toList).1) := fun W hW => by
                            refine (RWrite_of (HTA.out.keep hW).r xn BK).mono ?_
                            rintro e w' ⟨rfl, hs, ho⟩
                            exact ⟨_, rfl, ho.blk (hW.blk HBA.out (by simp)) (by simp; exact ⟨HXB.out.2.2.1, HXB.out.2.2.2⟩), (HTA.out.keep hW).turnR ho hs⟩
                          have HSN10 : Hid ((s.up.write xn BK.data.toList).1.n = n) := (St.write_wf HT9.out.a.wf xn BK.data.toList).2.1.trans HSN9.out
                          clear HWA HT9 HSN9 f1 f3 d0
                          go_wp2_with fail
                          go_region_held3 (fun w' => w'.cell? ⟨xb, 1, none⟩ = some (.int .i64 xn) ∧ w'.cell? ⟨xb, 3, none⟩ = some (.string TX))
                            (go_keep)
                            (first
                              | (go_at_call 19; refine (HBL.out _).mono ?_; rintro e _ ⟨rfl, rfl⟩)
                              | (go_at_call 20; refine (HWB.out _ ((Only.refl [] _).drew)).mono ?_; rintro e wb ⟨cb, rfl, hbb, htb⟩; have g1 : wb.cell? ⟨xb, 1, none⟩ = some (.int .i64 xn) := blk_cell hbb 1; have g3 : wb.cell? ⟨xb, 3, none⟩ = some (.string TX) := blk_cell hbb 3; have HT9 := Lib.hid htb; clear hbb htb))
                          have HSN9 := HSN10
                          clear HWB HTA HBA g1 g3 HSN10
                          go_wp2_with fail
                          refine (do_openA HT9.out HVA.out).mono ?_
                          intro e wA hA
                          obtain ⟨hv, rfl, hA2⟩ := hA.val
                          have HA2 := Lib.hid hA2
                          clear hA hA2
                          go_wp2_with fail
                          refine (do_openR HA2.out.1).mono ?_
                          intro e wB hB
                          obtain ⟨rv, rfl, hd⟩ := open_both HT9.out HA2.out hB
                          have HD := Lib.hid hd
                          rw [HSN9.out] at HD
                          clear hB hd HA2 HT9
                          generalize opC _ = cc at *
                          go_wp2_with fail
                          go_meet
                          case rel => exact HD
                      · as_aux_lemma =>
                        have n4 : (xk == 4) = false := beq_eq_false_iff_ne.mpr (fun e => h45 (Or.inl e))
                        have n5 : (xk == 5) = false := beq_eq_false_iff_ne.mpr (fun e => h45 (Or.inr e))
                        clear h45
                        go_wp2_with fail
                        go_meet
                        case rel => exact HI7
              case rest =>
                have HI8 : Hid (DoIn w wc p b q g n u9 u11) := hcut
                clear hcut HI7 c0 c1 c2 c3 c4 HBK HBG
                go_upto_region 39 with (fail)
                go_cut [170] (fun c wc => c = .bool false ∧ Hid (DoIn w wc p b q g n u9 u11))
                case first =>
                  obtain ⟨s, hst, hsn⟩ := HI8.out.st
                  have HBA := Lib.hid (bytes_of hst.a)
                  have HST := Lib.hid hst
                  obtain ⟨BB, hBB⟩ : ∃ BB, BB = mkS s.bs := ⟨_, rfl⟩
                  have HBR := Lib.hid (fun W (hW : Only [] wc W) => RBytes_of (hst.keep hW).r)
                  rw [← hBB] at HBA HBR
                  clear hst hsn hBB
                  have hform : (u9 = .pointer none ∧ u11 = .pointer none) ∨ ∃ x y : Nat, u9 = .pointer (some ⟨x, 0, none⟩) ∧ u11 = .pointer (some ⟨y, 0, none⟩) := by
                    rcases HI8.out with ⟨e1, e2, _⟩ | ⟨B, R, H, e1, e2, _⟩
                    · exact Or.inl ⟨e1, e2⟩
                    · exact Or.inr ⟨_, _, e1, e2⟩
                  rcases hform with ⟨rfl, rfl⟩ | ⟨x9, y9, rfl, rfl⟩
                  · as_aux_lemma =>
                    go_wp2_with fail
                    refine (HBA.out).mono ?_
                    rintro e w9 ⟨rfl, hb9⟩
                    have HO9 : Hid (Only [] wc w9) := Only.of_below hb9
                    clear hb9
                    go_wp2_with fail
                    refine (HBR.out _ HO9.out).mono ?_
                    rintro e wz ⟨rfl, hz⟩
                    subst wz
                    have HI9 := Lib.hid (HI8.out.keep HO9.out)
                    go_wp2_with fail
                    go_meet
                    case rel => exact ⟨rfl, HI9⟩
                  · as_aux_lemma =>
                    go_wp2_with fail
                    refine (HBA.out).mono ?_
                    rintro e w9 ⟨rfl, hb9⟩
                    have HO9 : Hid (Only [] wc w9) := Only.of_below hb9
                    clear hb9
                    go_wp2_with fail
                    refine (HBR.out _ HO9.out).mono ?_
                    rintro e wz ⟨rfl, hz⟩
                    subst wz
                    have HI9 := Lib.hid (HI8.out.keep HO9.out)
                    go_wp2_with fail
                    go_meet
                    case rel => exact ⟨rfl, HI9⟩
                case rest =>
                  obtain ⟨rfl, HI9⟩ := hcut
                  clear HI8
                  go_upto_region 41 with (fail)
                  go_cut [185] (fun c wc => c = .bool false ∧ Hid (DoIn w wc p b q g n u9 u11))
                  case first =>
                    rcases HI9.out with ⟨e1, e2, _⟩ | ⟨B, R, H, e1, e2, htw, hsn⟩
                    · as_aux_lemma =>
                      subst e1 e2
                      go_wp2_with fail
                      go_meet
                      case rel => exact ⟨rfl, HI9⟩
                    · as_aux_lemma =>
                      subst e1 e2
                      have HTW := Lib.hid htw
                      clear htw hsn
                      go_wp2_with fail
                      refine (snapshot_of HTW.out.a).mono ?_
                      rintro e w9 ⟨v9, rfl, hown9, ho9⟩
                      obtain ⟨ra, rm, rc, rfl⟩ := own_slice hown9
                      have HR9 := Lib.hid (RowS.of_own hown9)
                      have HO9 := Lib.hid ho9
                      clear hown9 ho9
                      go_wp2_with fail
                      refine (tail_of (HTW.out.keep HO9.out).a).mono ?_
                      rintro e w10 ⟨v10, rfl, hown10, ho10⟩
                      obtain ⟨sa, sm, sc, rfl⟩ := own_slice hown10
                      have HS10 := Lib.hid (RowS.of_own hown10)
                      have HR10 := Lib.hid (HR9.out.keep ho10)
                      have HO10 := Lib.hid (HO9.out.tr ho10)
                      clear hown10 ho10 HR9 HO9
                      go_wp2_with fail
                      refine (hage_of (HTW.out.keep HO10.out).a).mono ?_
                      rintro e w11 ⟨rfl, ho11⟩
                      have HS11 := Lib.hid (HS10.out.keep ho11)
                      have HR11 := Lib.hid (HR10.out.keep ho11)
                      have HO11 := Lib.hid (HO10.out.tr ho11)
                      clear ho11 HS10 HR10 HO10
                      go_wp2_with fail
                      refine (hroom_of (HTW.out.keep HO11.out).a).mono ?_
                      rintro e w12 ⟨rfl, ho12⟩
                      have HS12 := Lib.hid (HS11.out.keep ho12)
                      have HR12 := Lib.hid (HR11.out.keep ho12)
                      have HO12 := Lib.hid (HO11.out.tr ho12)
                      clear ho12 HS11 HR11 HO11
                      go_wp2_with fail
                      refine (Ralike_of (HTW.out.keep HO12.out).r HR12.out HS12.out).mono ?_
                      rintro e w13 ⟨rfl, ho13⟩
                      have HI13 := Lib.hid (HI9.out.keep (HO12.out.tr ho13))
                      clear ho13
                      go_wp2_with fail
                      go_meet
                      case rel => exact ⟨rfl, HI13⟩
                  case rest =>
                    obtain ⟨rfl, HI10⟩ := hcut
                    clear HI9
                    go_wp2_with fail
                    go_roundw
                    case rel => exact ⟨k + 1, rfl, by omega, HI10⟩
                    case measure => simp [intOf]; omega
          · have hc0 : ¬ ((k : Int) < 40) := by omega
            have hc1 : ((k : Int) < (L : Int)) := by omega
            go_wp2_with fail
            go_ret
            exact ⟨rfl, HI.out.on.below (Nat.le_refl _) (by simp)⟩
        · have hc1 : ¬ ((k : Int) < (L : Int)) := by omega
          go_wp2_with fail
          go_ret
          exact ⟨rfl, HI.out.on.below (Nat.le_refl _) (by simp)⟩
  · have hb : a1 < 1 ∨ 256 < a1 := by omega
    go_enter Tryz.func3, Tryz.ntmps3
    go_wp2_with fail
    refine (hawake_of w HVA.out).mono ?_
    rintro e w1 ⟨rfl, ho1⟩
    have HO1 := Lib.hid ho1
    clear ho1
    go_wp2_with fail
    refine (new_of a1 w1).mono ?_
    rintro e w2 ⟨hb2, (⟨_, rfl⟩ | ⟨h, _⟩)⟩
    · have HO2 := Lib.hid (HO1.out.tr (Only.of_below hb2))
      clear hb2
      go_wp2_with fail
      refine (RNew_bad a1 hb w2).mono ?_
      rintro e w9 ⟨rfl, hw9⟩
      subst w9
      go_wp2_with fail
      go_ret
      exact ⟨rfl, HO2.out.below (Nat.le_refl _) (by simp)⟩
    · exact absurd h hgood
end Go.Proofs.YtngcdkbnljoodaaGreatDoor
