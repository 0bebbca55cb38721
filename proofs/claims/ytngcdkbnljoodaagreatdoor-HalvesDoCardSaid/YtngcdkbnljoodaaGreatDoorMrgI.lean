/- The document's halves: what they are in memory; Look, Part, an append by values, lay. No conditions beyond those typed. The document's halves: lay walks. No conditions beyond those typed. The document's halves: Open walks. No conditions beyond those typed. -/
import Derived.Test.YtngcdkbnljoodaaGreatDoorMrgH
import Derived.Test.YtngcdkbnljoodaaGreatDoorMrgD
namespace Go.Proofs.YtngcdkbnljoodaaGreatDoor
set_option linter.unusedVariables false
set_option linter.unusedSimpArgs false
open Go.RowKit Go.Proofs.YtngcdkbnljoodaaGreatDoorW.PrintWords

theorem StR.typeQ {w : World} {q g : Nat} {s : St} (h : StR w q g s) : ∃ cs f, w.heap[q]? = some (.cells cs 56 f) := by
  obtain ⟨_, _, ⟨cap, m, c⟩, _⟩ := h
  exact ⟨_, _, c⟩
theorem StR.typeG {w : World} {q g : Nat} {s : St} (h : StR w q g s) : ∃ cs f, w.heap[g]? = some (.cells cs 9 f) := by
  obtain ⟨_, _, _, ⟨cur, c, _⟩⟩ := h
  exact ⟨_, _, c⟩
theorem JnR.typeJ {w : World} {j q pf nb fin : Nat} {rb : Option Nat} {l : List Bs} {o : Bool} (h : JnR w j rb q pf nb l fin o) : ∃ cs f, w.heap[j]? = some (.cells cs 111 f) := by
  obtain ⟨v, hv, _⟩ := h.ex
  exact ⟨_, _, hv⟩
theorem JnR.typeR {w : World} {j q pf nb fin : Nat} {rb : Option Nat} {l : List Bs} {o : Bool} (h : JnR w j rb q pf nb l fin o) {g : Nat} (hg : rb = some g) : ∃ cs f, w.heap[g]? = some (.cells cs 9 f) := by
  obtain ⟨v, hv, hown, hr, _⟩ := h.ex
  exact own_type hown (hr.trans hg)
theorem JnR.lt {w : World} {j q pf nb fin : Nat} {rb : Option Nat} {l : List Bs} {o : Bool} (h : JnR w j rb q pf nb l fin o) : j < w.heap.size ∧ ∀ g, rb = some g → g < w.heap.size := by
  obtain ⟨v, hv, hown, hr, _⟩ := h.ex
  exact ⟨blk_lt hv, fun g hg => (hown.lt g (hr.trans hg)).2⟩
/-- The document's halves, in memory. -/
structure RalIs (w : World) (B : HB) (q g : Nat) (H : HT) : Prop where
  st : StR w q g H.J.s
  n4 : 4 ≤ H.J.s.n
  u1 : H.use ≤ 1
  ex : ∃ vs vt, w.heap[B.h]? = some (.cells (halC q H.use H.age vs vt (some ⟨B.j, 0, none⟩) H.down) 78 (0, 0)) ∧ w.ownsRow 0 9 1 vs H.sn.length (H.sn.map strV) ∧ w.ownsRow 0 9 1 vt H.tl.length (H.tl.map strV) ∧ vs.ownBlock = B.bs ∧ vt.ownBlock = B.bt
  jn : JnR w B.j B.rb q (H.use * (H.J.s.n / 2)) (H.J.s.n / 2) H.J.l H.J.fin H.J.o
  ok : H.J.Ok (H.use * (H.J.s.n / 2)) (H.J.s.n / 2)
  rg : ∀ x, x ∈ B.own → x ≠ g
  ag : 1 ≤ H.age ∧ H.age ≤ 999999999999999999
  sl : H.sn.length ≤ H.J.l.length
  tll : H.tl.length ≤ H.J.l.length
theorem ral_lt {w : World} {B : HB} {q g : Nat} {H : HT} (h : RalIs w B q g H) : ∀ x, x ∈ [q, g] ++ B.own → x < w.heap.size := by
  intro x hx
  obtain ⟨vs, vt, hb, hr, ht, h1, h2⟩ := h.ex
  have hj := h.jn.lt
  have hs := h.st.lt
  unfold HB.own at hx
  simp only [List.mem_append, List.mem_cons, List.not_mem_nil, or_false, Option.mem_toList, Option.mem_def] at hx
  rcases hx with (rfl | rfl) | (rfl | rfl) | hx | hx | hx
  · exact hs.1
  · exact hs.2
  · exact blk_lt hb
  · exact hj.1
  · exact hj.2 x hx
  · exact (hr.lt x (h1.trans hx)).2
  · exact (ht.lt x (h2.trans hx)).2
theorem RalIs.only {S : List Nat} {w w' : World} {B : HB} {q g : Nat} {H : HT} (h : RalIs w B q g H) (ho : Only S w w') (hq : q ∉ S) (hg : g ∉ S) (hS : ∀ x, x ∈ B.own → x ∉ S) : RalIs w' B q g H := by
  obtain ⟨vs, vt, hbl, hr, ht, h1, h2⟩ := h.ex
  unfold HB.own at hS
  simp only [List.mem_append, List.mem_cons, List.not_mem_nil, or_false, Option.mem_toList, Option.mem_def] at hS
  exact ⟨h.st.only ho hq hg, h.n4, h.u1, ⟨vs, vt, ho.blk hbl (hS _ (Or.inl (Or.inl rfl))), own_keep hr ho (fun x hx => hS x (Or.inr (Or.inr (Or.inl (h1.symm.trans hx))))), own_keep ht ho (fun x hx => hS x (Or.inr (Or.inr (Or.inr (h2.symm.trans hx))))), h1, h2⟩,
    h.jn.only ho (hS _ (Or.inl (Or.inr rfl))) (fun x hx => hS x (Or.inr (Or.inl hx))), h.ok, h.rg, h.ag, h.sl, h.tll⟩
theorem RalIs.keep {w w' : World} {B : HB} {q g : Nat} {H : HT} (h : RalIs w B q g H) (ho : Only [] w w') : RalIs w' B q g H := h.only ho (by simp) (by simp) (fun _ _ => by simp)
theorem RalIs.few {w : World} {B : HB} {q g : Nat} {H : HT} (h : RalIs w B q g H) : H.sn.length ≤ 10000 ∧ H.tl.length ≤ 10000 ∧ H.J.l.length ≤ 10000 ∧ H.J.s.n / 2 ≤ 128 := by
  have h1 := h.sl
  have h2 := h.tll
  have h3 := h.ok.len
  have h4 := h.ok.fin
  have h5 := h.st.wf.hi
  omega
/-- A half is looked up. -/
theorem Rlook_of {w : World} {q g : Nat} {s : St} (h : StR w q g s) (a c : Nat) (hh : s.Has a c) :
    Calls Tryz.prog 36 #[.pointer (some ⟨q, 0, none⟩), .int .i64 (a : Int), .int .i64 (c : Int)] w fun e w' => ∃ v, e = .returned v ∧ w'.ownsRow w.heap.size 9 1 v (scanL (partB s a c)).length ((scanL (partB s a c)).map strV) ∧ Only [] w w' := by
  have HI := Lib.hid (Ris_of h (a : Int) (c : Int))
  rw [isB_has hh] at HI
  have HSC := Lib.hid (Rscan_of h a c hh)
  go_enter Tryz.func36, Tryz.ntmps36
  go_wp2_with fail
  refine HI.out.mono ?_
  rintro e w9 ⟨rfl, hw⟩
  subst w9
  go_wp2_with fail
  refine HSC.out.mono ?_
  rintro e w2 ⟨v, l, t, rfl, hsc, hown, ho, hne⟩
  have hl : scanL (partB s a c) = l := by
    rw [list_mkS] at hsc
    exact scanL_of hsc
  have HF : Hid (w2.ownsRow w.heap.size 9 1 v (scanL (partB s a c)).length ((scanL (partB s a c)).map strV) ∧ Only [] w w2) := by
    show _ ∧ _
    rw [hl]
    exact ⟨hown, ho⟩
  obtain ⟨va, vn, vc, rfl⟩ := own_slice hown
  clear hsc hown ho hne hl
  go_wp2_with fail
  go_ret
  exact ⟨_, rfl, HF.out.1, HF.out.2⟩
/-- A half is opened as a journal. -/
theorem Rpart_half {w : World} {q g : Nat} {s : St} (h : StR w q g s) (pf nb : Nat) (hh : s.Has pf nb) : Calls Tryz.prog 38 #[.pointer (some ⟨q, 0, none⟩), .int .i64 (pf : Int), .int .i64 (nb : Int)] w fun e w' => ∃ (po : Option Addr) (a : Option Addr) (m c : Nat),
    e = .returned (.tuple #[.pointer po, .slice a m c, .int .i64 (openS s pf nb (frames (scanL (partB s pf nb))).length).2]) ∧ Only [q, g] w w' ∧ StR w' q g (openS s pf nb (frames (scanL (partB s pf nb))).length).1 ∧
    ((openS s pf nb (frames (scanL (partB s pf nb))).length).2 ≠ 0 → po = none) ∧
    ((openS s pf nb (frames (scanL (partB s pf nb))).length).2 = 0 → ∃ j rb, po = some ⟨j, 0, none⟩ ∧ w.heap.size ≤ j ∧ (∀ x, rb = some x → w.heap.size ≤ x) ∧ JnR w' j rb q pf nb (scanL (partB s pf nb)) (frames (scanL (partB s pf nb))).length false) := by
  refine (RPart_yes h pf nb hh).mono ?_
  rintro e w' ⟨ho, (⟨hB, _⟩ | ⟨a, c, l, t, ha, hc, _, hsc, hst, hre⟩)⟩
  · rw [isB_has hh] at hB; cases hB
  · obtain rfl : pf = a := by omega
    obtain rfl : nb = c := by omega
    have hl := scanL_of hsc
    rw [hl]
    rcases hre with ⟨h9, rfl⟩ | ⟨h0, j, rb, v, hj, hrb, rfl, hjn, hown⟩
    · exact ⟨none, none, 0, 0, rfl, ho, hst, fun _ => rfl, fun h => absurd h h9⟩
    · obtain ⟨va, vn, vc, rfl⟩ := own_slice hown
      exact ⟨_, va, vn, vc, by rw [h0], ho, hst, fun h => absurd h0 h, fun _ => ⟨j, rb, rfl, hj, hrb, hjn⟩⟩
/-- An append to the document's journal, by values. -/
def RAppAny (q g j : Nat) (rb : Option Nat) (pf nb : Nat) (A : JS) (t : Bs) (w : World) (e : Ending) (w' : World) : Prop :=
  e = .returned (.int .i64 (A.app pf nb t).2) ∧ Only [q, g, j] w w' ∧ StR w' q g (A.app pf nb t).1.s ∧
    ∃ rb', (∀ x, rb' = some x → rb = some x ∨ w.heap.size ≤ x) ∧ JnR w' j rb' q pf nb (A.app pf nb t).1.l (A.app pf nb t).1.fin (A.app pf nb t).1.o
theorem Rapp_any {w : World} {q g j pf nb : Nat} {rb : Option Nat} {A : JS} (hs : StR w q g A.s) (hj : JnR w j rb q pf nb A.l A.fin A.o) (hk : A.Ok pf nb) (hrg : ∀ x, rb = some x → x ≠ g) (d : ByteArray) :
    Calls Tryz.prog 40 #[.pointer (some ⟨j, 0, none⟩), .string d] w (RAppAny q g j rb pf nb A d.data.toList w) := by
  have hdl : d.data.toList.length = d.size := rfl
  have hn : nb ≤ 256 := by have := hk.wf.hi; have := hk.has.2; omega
  have hf := hk.fin
  have ha := hk.len
  have hjl := hj.lt
  refine (RAppend_of hs hj hk.has hrg d hf (by omega)).mono ?_
  have hsz : ∀ w', Only [] w w' → StR w' q g A.s ∧ JnR w' j rb q pf nb A.l A.fin A.o ∧ Only [q, g, j] w w' := fun w' ho => ⟨hs.only ho (by simp) (by simp), hj.only ho (by simp) (by simp), ho.mono (by simp)⟩
  unfold RAppAny JS.app
  rw [hdl]
  rintro e w' (⟨hb, rfl, ho⟩ | ⟨h1, h2, hb, rfl, ho⟩ | ⟨h1, h2, hr, h0, hO, hst, rfl, hc⟩)
  · obtain ⟨a1, a2, a3⟩ := hsz w' ho
    rw [if_pos hb]
    exact ⟨rfl, a3, a1, rb, fun x h => Or.inl h, a2⟩
  · obtain ⟨a1, a2, a3⟩ := hsz w' ho
    rw [if_neg (show ¬ (d.size = 0 ∨ 400 < d.size) by omega)]
    by_cases hr : 32 * nb < A.fin + (d.size + 8)
    · rw [if_pos hr, if_pos hr]
      exact ⟨rfl, a3, a1, rb, fun x h => Or.inl h, a2⟩
    · rw [if_neg hr, if_neg hr]
      have ho2 : A.o = true := by
        rcases hb with h | h
        · exact absurd h hr
        · exact h
      rw [if_pos ho2]
      exact ⟨rfl, a3, a1, rb, fun x h => Or.inl h, a2⟩
  · rw [if_neg (show ¬ (d.size = 0 ∨ 400 < d.size) by omega), if_neg (show ¬ (32 * nb < A.fin + (d.size + 8)) by omega), if_neg (show ¬ (A.o = true) by rw [h0]; simp)]
    rcases hc with ⟨hne, hjn⟩ | ⟨h9, rb', hrb', hjn⟩
    · rw [if_neg hne]
      exact ⟨rfl, hO, hst, rb, fun x h => Or.inl h, hjn⟩
    · rw [if_pos h9]
      exact ⟨by rw [h9], hO, hst, rb', fun x h => Or.inr (hrb' x h), hjn⟩
/-- While records are laid. -/
structure RFrIn (w wq : World) (q g j pf nb : Nat) (A0 A : JS) (rb : Option Nat) (rs : List Bs) (i : Nat) (c : Int) : Prop where
  st : StR wq q g A.s
  jn : JnR wq j rb q pf nb A.l A.fin A.o
  ok : A.Ok pf nb
  gj : w.heap.size ≤ j
  gr : ∀ x, rb = some x → w.heap.size ≤ x
  gg : g < w.heap.size
  on : Only [q, g] w wq
  go : c = 0 → JS.apps pf nb A0 rs = JS.apps pf nb A (rs.drop i)
  no : c ≠ 0 → JS.apps pf nb A0 rs = (A, c)
theorem RFrIn.step {w wq w' : World} {q g j pf nb : Nat} {A0 A : JS} {rb : Option Nat} {rs : List Bs} {i : Nat} (h : RFrIn w wq q g j pf nb A0 A rb rs i 0) {x : Bs} (hx : rs[i]? = some x) {e : Ending} (hp : RAppAny q g j rb pf nb A x wq e w') :
    e = .returned (.int .i64 (A.app pf nb x).2) ∧ ∃ rb', RFrIn w w' q g j pf nb A0 (A.app pf nb x).1 rb' rs (i + 1) (A.app pf nb x).2 := by
  obtain ⟨he, hO, hst, rb', hrb, hjn⟩ := hp
  have hdr := drop_at hx
  have hgo := h.go rfl
  rw [hdr, JS.apps] at hgo
  refine ⟨he, rb', hst, hjn, (JS.app_ok h.ok x).1, h.gj, fun y hy => ?_, h.gg, h.on.trans hO ?_, fun h0 => ?_, fun h0 => ?_⟩
  · rcases hrb y hy with h1 | h1
    · exact h.gr y h1
    · have := h.on.size; omega
  · intro z hz
    simp only [List.mem_cons, List.not_mem_nil, or_false] at hz
    rcases hz with rfl | rfl | rfl
    · exact Or.inl (by simp)
    · exact Or.inl (by simp)
    · exact Or.inr h.gj
  · rw [hgo, if_pos h0]
  · rw [hgo, if_neg h0]
def LayPost (s : St) (q g pf nb : Nat) (rs : List Bs) (w : World) (e : Ending) (w' : World) : Prop :=
  Only [q, g] w w' ∧ StR w' q g (freshS s pf nb rs).1.s ∧ ∃ po, e = .returned (.tuple #[.pointer po, .int .i64 (freshS s pf nb rs).2]) ∧
    ((freshS s pf nb rs).2 = 0 → ∃ j rb, po = some ⟨j, 0, none⟩ ∧ w.heap.size ≤ j ∧ (∀ x, rb = some x → w.heap.size ≤ x) ∧ JnR w' j rb q pf nb (freshS s pf nb rs).1.l (freshS s pf nb rs).1.fin (freshS s pf nb rs).1.o)
theorem RFrIn.fin {w wq : World} {q g j pf nb : Nat} {s : St} {A : JS} {rb : Option Nat} {rs : List Bs} {c : Int} {i : Nat} (h0 : (openS s pf nb 0).2 = 0) (h : RFrIn w wq q g j pf nb ⟨(openS s pf nb 0).1, [], 0, false⟩ A rb rs i c) (hq : c = 0 → rs.length ≤ i) :
    LayPost s q g pf nb rs w (.returned (.tuple #[.pointer (some ⟨j, 0, none⟩), .int .i64 c])) wq := by
  have hf : freshS s pf nb rs = (A, c) := by
    unfold freshS
    rw [if_neg (by simp [h0])]
    by_cases hc : c = 0
    · rw [h.go hc, List.drop_of_length_le (hq hc), hc]; rfl
    · exact h.no hc
  unfold LayPost
  rw [hf]
  exact ⟨h.on, h.st, _, rfl, fun _ => ⟨j, rb, rfl, h.gj, h.gr, h.jn⟩⟩
/-- While a half is cleared. -/
structure RClIn (w wq : World) (q g pf nb : Nat) (s si : St) (i : Nat) : Prop where
  st : StR wq q g si
  n : si.n = s.n
  on : Only [q, g] w wq
  run : openS s pf nb 0 = clrL pf (nb - i) i si
end Go.Proofs.YtngcdkbnljoodaaGreatDoor

namespace Go.Proofs.YtngcdkbnljoodaaGreatDoor
set_option linter.unusedVariables false
set_option linter.unusedSimpArgs false
open Go.RowKit Go.Proofs.YtngcdkbnljoodaaGreatDoorW.PrintWords

theorem StR.cells {w : World} {q g : Nat} {s : St} (h : StR w q g s) : ∃ cap, w.cell? ⟨q, 0, none⟩ = some (.slice (some ⟨g, 0, none⟩) s.n cap) ∧ ∀ i, i < s.n → w.cell? ⟨g, i, none⟩ = some (.string (mkS (blk s.bs i))) := by
  obtain ⟨hwf, hne, ⟨cap, m, hq⟩, ⟨cur, hg, hc⟩⟩ := h
  obtain ⟨c0, _⟩ := refF hq
  exact ⟨cap, c0, fun i hi => (blk_cell hg i).trans (hc i hi)⟩
set_option maxHeartbeats 4000000 in
set_option maxRecDepth 100000 in
theorem Rlay_of {w : World} {q g : Nat} {s : St} (h : StR w q g s) (h2 : 2 ≤ s.n) (k pf nb : Nat) (hk : k ≤ 1) (hpf : pf = k * (s.n / 2)) (hnb : nb = s.n / 2) {v : Value} {rs : List Bs} (hv : RowA w v rs q g) (hl : rs.length ≤ 100000) (hx : ∀ x ∈ rs, x.length ≤ 140737488355328) :
    Calls Tryz.prog 37 #[.pointer (some ⟨q, 0, none⟩), .int .i64 (k : Int), v] w (LayPost s q g pf nb rs w) := by
  obtain ⟨a, cap, rfl, hc⟩ := hv
  have HC := Lib.hid hc
  have HX := Lib.hid hx
  have hn := h.wf.hi
  have hh : s.Has pf nb := by
    constructor
    · omega
    · rw [hpf, hnb]
      rcases (show k = 0 ∨ k = 1 by omega) with rfl | rfl <;> omega
  have HH := Lib.hid hh
  have HWF := Lib.hid h.wf
  have HS := Lib.hid h
  have HG : Hid (g < w.heap.size) := h.lt.2
  obtain ⟨M, hM⟩ : ∃ M, M = rs.length := ⟨_, rfl⟩
  rw [← hM] at hl ⊢
  have HM := Lib.hid hM
  have HCO := Lib.hid (clr_open h.wf hh)
  obtain ⟨T, hT⟩ : ∃ T : Nat, T = pf + nb := ⟨_, rfl⟩
  have hsum : (pf : Int) + (nb : Int) = (T : Int) := by omega
  have hTb : T ≤ 256 := by have := hh.2; omega
  have hwT : IntKind.i64.wrap (T : Int) = (T : Int) := IntWalk.i64_in _ (by omega)
  have hd : (s.n : Int) / 2 = (nb : Int) := by omega
  have hw1 : IntKind.i64.wrap (nb : Int) = (nb : Int) := IntWalk.i64_in _ (by have := hh.2; omega)
  have hmul : (k : Int) * (nb : Int) = (pf : Int) := by rw [hpf, hnb]; simp
  have hw2 : IntKind.i64.wrap (pf : Int) = (pf : Int) := IntWalk.i64_in _ (by have := hh.2; omega)
  obtain ⟨ZB, hZB⟩ : ∃ ZB, ZB = mkS (zs 32) := ⟨_, rfl⟩
  have hZl : ZB.data.toList = zs 32 := by rw [hZB, list_mkS]
  have HZB := Lib.hid hZB
  have HTT : Hid (T = pf + nb) := hT
  obtain ⟨cp0, z0, _⟩ := h.cells
  clear h h2 hpf hnb hc hx hh hM hT hZB
  go_enter Tryz.func37, Tryz.ntmps37
  go_wp2_with fail
  go_loopw [9] (fun sv wq => ∃ k : Nat, k ≤ 32 ∧ sv = .string (mkS (zs k)) ∧ wq = w) (fun sv _ => 32 - (match sv with | .string b => b.size | _ => 0))
  case atStart => exact ⟨0, by omega, rfl, rfl⟩
  case round =>
    obtain ⟨k0, hk0, rfl, hwq0⟩ := hrel
    subst wr
    have hAs : (mkS (zs k0)).size = k0 := by rw [size_mkS, zs_length]
    by_cases h32 : k0 < 32
    · obtain ⟨A, hA⟩ : ∃ A, A = mkS (zs k0) := ⟨_, rfl⟩
      obtain ⟨O, hO⟩ : ∃ O : ByteArray, O = { data := #[0] } := ⟨_, rfl⟩
      have hsn := zs_snoc k0
      have hO2 : ({ data := #[0] } : ByteArray) = O := hO.symm
      rw [hO2, ← hA] at hsn
      rw [← hA] at hAs ⊢
      have HSN := Lib.hid hsn
      have hOs : O.size = 1 := by rw [hO]; rfl
      have r1 : ∀ W : World, (Op.stringOp .add A O).run Tryz.prog W = .ok (.string (A ++ O)) W := fun W => by rw [run_string_add_sum W A O (by omega)]
      have HSZ : Hid ((A ++ O).size = k0 + 1) := by show _ = _; rw [← hsn, size_mkS, zs_length]
      have hc1 : (k0 : Int) < 32 := by omega
      have HAS : Hid (A.size = k0) := hAs
      clear hA hO hsn
      go_wp2_with fail
      go_roundw
      case rel => exact ⟨k0 + 1, by omega, by rw [HSN.out], trivial⟩
      case measure => have := HSZ.out; have := HAS.out; simp only [this]; omega
    · have hk32 : 32 = k0 := by omega
      subst hk32
      rw [← HZB.out]
      have hzs : ZB.size = 32 := by rw [HZB.out]; exact hAs
      have HI : Hid (RClIn w w q g pf nb s s 0) := ⟨HS.out, rfl, Only.refl _ _, HCO.out.symm⟩
      have HZS := Lib.hid hzs
      have hz32 : ¬ ((ZB.size : Int) < 32) := by omega
      clear hAs hk0 h32 hzs
      go_wp2_with fail
      go_loopw [10] (fun iv wq => ∃ (i : Nat) (si : St), iv = .int .i64 ((pf + i : Nat) : Int) ∧ i ≤ nb ∧ Hid (RClIn w wq q g pf nb s si i)) (fun iv _ => T - (intOf iv).toNat)
      case atStart => exact ⟨0, s, rfl, Nat.zero_le _, HI⟩
      case round =>
        clear HI z0
        obtain ⟨i, si, rfl, hi, HI⟩ := hrel
        obtain ⟨I, hI⟩ : ∃ I, I = pf + i := ⟨_, rfl⟩
        rw [← hI]
        by_cases hin : i < nb
        · have c1 : (I : Int) < (T : Int) := by have := HTT.out; omega
          have hIn : I < si.n := by rw [HI.out.n]; have := HH.out.2; omega
          have hIb : I < 256 := by have := HTT.out; omega
          obtain ⟨cp1, z0, z1⟩ := HI.out.st.cells
          have z1 := z1 I hIn
          obtain ⟨SN, hSN⟩ : ∃ SN, SN = si.n := ⟨_, rfl⟩
          rw [← hSN] at z0 hIn
          have hIi : (I : Int) < (SN : Int) := by omega
          have hI0 : (0 : Int) ≤ (I : Int) := by omega
          obtain ⟨XB, hXB⟩ : ∃ XB, XB = mkS (blk si.bs I) := ⟨_, rfl⟩
          rw [← hXB] at z1
          have heq : (XB.toList == ZB.toList) = decide (blk si.bs I = zs 32) := by
            rw [ByteArray.toList_eq, ByteArray.toList_eq, hZl, hXB, list_mkS, Bool.eq_iff_iff, beq_iff_eq, decide_eq_true_iff]
          have HRUN : Hid (openS s pf nb 0 = if blk si.bs I = zs 32 then clrL pf (nb - (i + 1)) (i + 1) si else if (si.write ((pf + i : Nat) : Int) (zs 32)).2 ≠ 0 then si.write ((pf + i : Nat) : Int) (zs 32) else clrL pf (nb - (i + 1)) (i + 1) (si.write ((pf + i : Nat) : Int) (zs 32)).1) := by
            show _ = _
            rw [HI.out.run, show nb - i = (nb - (i + 1)) + 1 by omega, clrL, ← hI]
          have hwr : IntKind.i64.wrap ((I : Int) + 1) = (I : Int) + 1 := IntWalk.i64_in _ (by omega)
          have HII := Lib.hid hI
          clear hXB hI hSN
          by_cases hz : blk si.bs I = zs 32
          · rw [decide_eq_true hz] at heq
            have HI3 : Hid (RClIn w wr q g pf nb s si (i + 1)) := ⟨HI.out.st, HI.out.n, HI.out.on, by rw [HRUN.out, if_pos hz]⟩
            clear hz HRUN HI
            go_wp2_with fail
            go_roundw
            case rel => exact ⟨i + 1, si, by rw [HII.out]; congr 1, by omega, HI3⟩
            case measure => simp [intOf]; omega
          · rw [decide_eq_false hz] at heq
            have HRUN2 : Hid (openS s pf nb 0 = if (si.write (I : Int) (zs 32)).2 ≠ 0 then si.write (I : Int) (zs 32) else clrL pf (nb - (i + 1)) (i + 1) (si.write (I : Int) (zs 32)).1) := by
              show _ = _
              rw [HRUN.out, if_neg hz, ← HII.out]
            have HW := Lib.hid (RWrite_of HI.out.st (I : Int) ZB)
            rw [hZl] at HW
            have hwf := St.write_wf HI.out.st.wf (I : Int) (zs 32)
            clear hz HRUN
            generalize si.write (I : Int) (zs 32) = r at *
            obtain ⟨s', c⟩ := r
            go_wp2_with fail
            refine (HW.out).mono ?_
            rintro e w3 ⟨rfl, hs3, ho3⟩
            have HS3 := Lib.hid hs3
            have HO3 : Hid (Only [q, g] w w3) := HI.out.on.tr ho3
            have HN3 : Hid (s'.n = s.n) := hwf.2.1.trans HI.out.n
            clear hs3 ho3 hwf HW
            by_cases hc0 : c = 0
            · subst hc0
              have HI3 : Hid (RClIn w w3 q g pf nb s s' (i + 1)) := ⟨HS3.out, HN3.out, HO3.out, by rw [HRUN2.out, if_neg (by simp)]⟩
              go_wp2_with fail
              go_roundw
              case rel => exact ⟨i + 1, s', by rw [HII.out]; congr 1, by omega, HI3⟩
              case measure => simp [intOf]; omega
            · have hcb : (c == 0) = false := beq_eq_false_iff_ne.mpr hc0
              have HF : Hid (freshS s pf nb rs = (⟨s', [], 0, false⟩, c)) := by
                show _ = _
                have h9 : openS s pf nb 0 = (s', c) := by rw [HRUN2.out, if_pos hc0]
                unfold freshS
                rw [h9, if_pos hc0]
              go_wp2_with fail
              go_ret2
              unfold LayPost
              rw [HF.out]
              exact ⟨HO3.out, HS3.out, none, rfl, fun h0 => absurd h0 hc0⟩
        · have hie : i = nb := by omega
          have cT : ¬ (I : Int) < (T : Int) := by have := HTT.out; omega
          have HRUN : Hid (openS s pf nb 0 = (si, 0)) := by
            show _ = _
            rw [HI.out.run, hie, Nat.sub_self]; rfl
          have hz : partB si pf nb = zs (32 * nb) := by
            have := clr_part HWF.out HH.out (by rw [HRUN.out])
            rw [HRUN.out] at this
            exact this
          have hhi : si.Has pf nb := by have := HH.out; unfold St.Has at this ⊢; rw [HI.out.n]; exact this
          have hsc : IsScan (partB si pf nb) [] (zs (32 * nb)) := ⟨by rw [hz]; rfl, by simp, oneL_zs _⟩
          have HP : Hid (Calls Tryz.prog 38 #[.pointer (some ⟨q, 0, none⟩), .int .i64 (pf : Int), .int .i64 (nb : Int)] wr fun e w' => ∃ (j : Nat) (a : Option Addr) (m cc : Nat), e = .returned (.tuple #[.pointer (some ⟨j, 0, none⟩), .slice a m cc, .int .i64 0]) ∧ ∃ rb, RFrIn w w' q g j pf nb ⟨(openS s pf nb 0).1, [], 0, false⟩ ⟨(openS s pf nb 0).1, [], 0, false⟩ rb rs 0 0) := by
            refine (RPart_yes HI.out.st pf nb hhi).mono ?_
            rintro e w' ⟨hO, (⟨hB, _⟩ | ⟨a', c', l', t', ha, hc', _, hsc', hst, hre⟩)⟩
            · rw [isB_has hhi] at hB; cases hB
            · obtain rfl : pf = a' := by omega
              obtain rfl : nb = c' := by omega
              obtain ⟨rfl, _⟩ := hsc'.uniq hsc
              have hos : openS si pf nb 0 = (si, 0) := open_same hz
              rw [frames_nil, List.length_nil, hos] at hre hst
              rcases hre with ⟨h9, _⟩ | ⟨_, j, rb, v, hj, hrb, rfl, hjn, hown⟩
              · exact absurd rfl h9
              · obtain ⟨va, vn, vc, rfl⟩ := own_slice hown
                refine ⟨j, va, vn, vc, rfl, rb, ?_⟩
                rw [HRUN.out]
                exact ⟨hst, hjn, ⟨HI.out.st.wf, hhi, Nat.zero_le _, Nat.le_refl _⟩, by have := HI.out.on.size; omega, fun x hx => by have := HI.out.on.size; have := hrb x hx; omega, HG.out, HI.out.on.tr hO, fun _ => rfl, fun h0 => absurd rfl h0⟩
          have HO0 : Hid ((openS s pf nb 0).2 = 0) := by show _ = _; rw [HRUN.out]
          clear hz hhi hsc HRUN hI HI hie
          go_wp2_with fail
          refine (HP.out).mono ?_
          rintro e w2 ⟨j, va, vn, vc, rfl, rb, hfr⟩
          have HFR : Hid (∃ A rb, RFrIn w w2 q g j pf nb ⟨(openS s pf nb 0).1, [], 0, false⟩ A rb rs 0 0) := ⟨_, rb, hfr⟩
          clear hfr HP
          go_wp2_with fail
          go_loopw [14, 15] (fun cv iv wq => ∃ (c : Int) (i : Nat), cv = .int .i64 c ∧ iv = .int .i64 (i : Int) ∧ i ≤ M ∧ Hid (∃ A rb, RFrIn w wq q g j pf nb ⟨(openS s pf nb 0).1, [], 0, false⟩ A rb rs i c)) (fun _ iv _ => M - (intOf iv).toNat)
          case atStart => exact ⟨0, 0, rfl, rfl, Nat.zero_le _, HFR⟩
          case round =>
            clear HFR
            obtain ⟨c, i, rfl, rfl, hq, HFR⟩ := hrel
            obtain ⟨A, rb1, hfr⟩ := HFR.out
            by_cases hqM : i < M
            · obtain ⟨x, hx⟩ : ∃ x, rs[i]? = some x := ⟨_, List.getElem?_eq_getElem (by have := HM.out; omega)⟩
              obtain ⟨ad, rfl, _, _, hcx⟩ := rowA_keep (by simp) HC.out hfr.on i x hx
              unfold strV at hcx
              have d1 : (i : Int) < (M : Int) := by omega
              have d0 : (0 : Int) ≤ (i : Int) := by omega
              have hwr : IntKind.i64.wrap ((i : Int) + 1) = (i : Int) + 1 := IntWalk.i64_in _ (by omega)
              by_cases hc0 : c = 0
              · subst hc0
                have HAP := Lib.hid (Rapp_any hfr.st hfr.jn hfr.ok (fun x hx => by have := hfr.gr x hx; have := hfr.gg; omega) (mkS x))
                rw [list_mkS] at HAP
                have HST := Lib.hid (fun e w' (hp : RAppAny q g j rb1 pf nb A x wr e w') => hfr.step hx hp)
                clear hx hfr HFR
                go_wp2_with fail
                refine (HAP.out).mono ?_
                intro e w3 hp3
                obtain ⟨rfl, rb3, hfr3⟩ := HST.out e w3 hp3
                have HF3 := Lib.hid hfr3
                clear hp3 hfr3 HAP HST
                go_wp2_with fail
                go_roundw
                case rel => exact ⟨_, i + 1, rfl, rfl, by omega, ⟨_, _, HF3.out⟩⟩
                case measure => simp [intOf]; omega
              · have hcb : (c == 0) = false := beq_eq_false_iff_ne.mpr hc0
                have HFP := Lib.hid (hfr.fin HO0.out (fun h => absurd h hc0))
                clear hx hfr HFR
                go_wp2_with fail
                go_ret2
                exact HFP.out
            · have d1 : ¬ (i : Int) < (M : Int) := by omega
              have HFP := Lib.hid (hfr.fin HO0.out (fun _ => by have := HM.out; omega))
              clear hfr HFR
              go_wp2_with fail
              go_ret2
              exact HFP.out
end Go.Proofs.YtngcdkbnljoodaaGreatDoor

namespace Go.Proofs.YtngcdkbnljoodaaGreatDoor
set_option linter.unusedVariables false
set_option linter.unusedSimpArgs false
open Go.RowKit Go.Proofs.YtngcdkbnljoodaaGreatDoorW.PrintWords

/-- A half is looked up and read. -/
theorem Rlook_read {w : World} {q g : Nat} {s : St} (h : StR w q g s) (k pf nb : Nat) (hk : k ≤ 1) (h4 : 4 ≤ s.n) (hpf : pf = k * (s.n / 2)) (hnb : nb = s.n / 2) : Calls Tryz.prog 36 #[.pointer (some ⟨q, 0, none⟩), .int .i64 (pf : Int), .int .i64 (nb : Int)] w fun e w' => ∃ v, e = .returned v ∧ Only [] w w' ∧
    Calls Tryz.prog 35 #[v] w' fun e w2 => ∃ a1 n1 q1 a2 n2 q2, e = .returned (.tuple #[.int .i64 (halfL s k).1, .slice a1 n1 q1, .slice a2 n2 q2]) ∧ Only [] w' w2 ∧ Rows2 w'.heap.size w2 (.slice a1 n1 q1) (.slice a2 n2 q2) (halfL s k).2.1 (halfL s k).2.2 := by
  subst hpf hnb
  have hh := half_has (s := s) hk h4
  have hsl := scan_len h.wf hh
  have hhi := h.wf.hi
  have hall : ∀ x ∈ scanL (partB s (k * (s.n / 2)) (s.n / 2)), x.length ≤ 100000 := fun x hx => by
    have := frames_pos hx
    omega
  refine (Rlook_of h _ _ hh).mono ?_
  rintro e w' ⟨v, rfl, hown, ho⟩
  refine ⟨v, rfl, ho, ?_⟩
  refine (Rread_of hown (by omega) hall).mono ?_
  rintro e w2 ⟨vs, vt, rfl, hr, ho2⟩
  obtain ⟨a1, n1, q1, rfl⟩ := own_slice hr.s
  obtain ⟨a2, n2, q2, rfl⟩ := own_slice hr.t
  exact ⟨a1, n1, q1, a2, n2, q2, rfl, ho2, hr⟩
theorem Ropen_few {w : World} {q g : Nat} {s : St} (h : StR w q g s) (hn : s.n < 4) : Calls Tryz.prog 8 #[.pointer (some ⟨q, 0, none⟩)] w fun e w' => e = .returned (.tuple #[.pointer none, .int .i64 1]) ∧ w = w' := by
  obtain ⟨cp0, z0, _⟩ := h.cells
  have h4 : (s.n : Int) < 4 := by omega
  clear h
  go_enter Tryz.func8, Tryz.ntmps8
  go_wp2
  go_ret2
  exact ⟨rfl, rfl⟩
/-- The end of an opening. -/
theorem ral_fin {w W : World} {hh q g j use : Nat} {rb : Option Nat} {age : Int} {sn tl : List Bs} {vs vt : Value} {A : JS} {n : Nat} (hb : W.heap[hh]? = some (.cells (halC q use age vs vt (some ⟨j, 0, none⟩) false) 78 (0, 0)))
    (hs : W.ownsRow w.heap.size 9 1 vs sn.length (sn.map strV)) (ht : W.ownsRow w.heap.size 9 1 vt tl.length (tl.map strV)) (hge : w.heap.size ≤ hh) (hg : g < w.heap.size) (hst : StR W q g A.s) (hn : A.s.n = n) (h4 : 4 ≤ n) (hu : use ≤ 1) (hok : A.Ok (use * (n / 2)) (n / 2)) (hj : w.heap.size ≤ j) (hrb : ∀ x, rb = some x → w.heap.size ≤ x)
    (hjn : JnR W j rb q (use * (n / 2)) (n / 2) A.l A.fin A.o) (ha : 1 ≤ age ∧ age ≤ 999999999999999999) (hsl : sn.length ≤ A.l.length) (htl : tl.length ≤ A.l.length) :
    (∀ x, x ∈ (HB.mk hh j rb vs.ownBlock vt.ownBlock).own → w.heap.size ≤ x) ∧ RalIs W ⟨hh, j, rb, vs.ownBlock, vt.ownBlock⟩ q g ⟨A, use, age, sn, tl, false⟩ := by
  have hown : ∀ x, x ∈ (HB.mk hh j rb vs.ownBlock vt.ownBlock).own → w.heap.size ≤ x := by
    intro x hx
    unfold HB.own at hx
    simp only [List.mem_append, List.mem_cons, List.not_mem_nil, or_false, Option.mem_toList, Option.mem_def] at hx
    rcases hx with (rfl | rfl) | hx | hx | hx
    · exact hge
    · exact hj
    · exact hrb x hx
    · exact (hs.lt x hx).1
    · exact (ht.lt x hx).1
  refine ⟨hown, hst, by show 4 ≤ A.s.n; rw [hn]; exact h4, hu, ⟨vs, vt, hb, own_mono hs (Nat.zero_le _), own_mono ht (Nat.zero_le _), rfl, rfl⟩, ?_, ?_, fun x hx => by have := hown x hx; omega, ha, hsl, htl⟩
  · show JnR W j rb q (use * (A.s.n / 2)) (A.s.n / 2) A.l A.fin A.o
    rw [hn]
    exact hjn
  · show A.Ok (use * (A.s.n / 2)) (A.s.n / 2)
    rw [hn]
    exact hok
def ROpenHP (s : St) (q g : Nat) (w : World) (e : Ending) (w' : World) : Prop :=
  Only [q, g] w w' ∧ StR w' q g (openH s).1.J.s ∧ (openH s).1.J.s.n = s.n ∧ ∃ po, e = .returned (.tuple #[.pointer po, .int .i64 (openH s).2]) ∧ ((openH s).2 ≠ 0 → po = none) ∧
    ((openH s).2 = 0 → ∃ B : HB, po = some ⟨B.h, 0, none⟩ ∧ (∀ x, x ∈ B.own → w.heap.size ≤ x) ∧ RalIs w' B q g (openH s).1)
theorem ageL_le (r : Bs) : ageL r ≤ 999999999999999999 := by
  rw [← refAge_eq]
  unfold refAge
  split
  · rename_i h
    obtain ⟨_, _, h3, _, h5⟩ := h
    have h1 := digV_lt (r.drop 2) (List.all_eq_true.1 h5)
    have h2 : (10 : Nat) ^ (r.drop 2).length ≤ 10 ^ 18 := Nat.pow_le_pow_right (by decide) (by rw [List.length_drop]; omega)
    omega
  · omega
theorem readL_le (l : List Bs) : (readL l).1 ≤ 999999999999999999 := by
  cases l with
  | nil => show (0 : Int) ≤ _; omega
  | cons r t =>
    rw [readL_cons]
    have := ageL_le r
    split
    · show (0 : Int) ≤ _; omega
    · split
      · exact this
      · show (0 : Int) ≤ _; omega
def OpenMid (s : St) (q : Nat) (w wc : World) (hv : Value) : Prop := ∃ (U hh : Nat) (vs vt : Value), hv = .pointer (some ⟨hh, 0, none⟩) ∧ openU s = U ∧ U ≤ 1 ∧ (halfL s U).1 ≠ 0 ∧ Only [] w wc ∧ w.heap.size ≤ hh ∧
  wc.heap[hh]? = some (.cells (halC q U (halfL s U).1 vs vt none false) 78 (0, 0)) ∧ Rows2 w.heap.size wc vs vt (halfL s U).2.1 (halfL s U).2.2
set_option maxHeartbeats 4000000 in
set_option maxRecDepth 100000 in
theorem ROpenH_of {w : World} {q g : Nat} {s : St} (h : StR w q g s) (h4 : 4 ≤ s.n) : Calls Tryz.prog 8 #[.pointer (some ⟨q, 0, none⟩)] w (ROpenHP s q g w) := by
  have hn := h.wf.hi
  have HS := Lib.hid h
  have H4 := Lib.hid h4
  obtain ⟨cp0, z0, _⟩ := h.cells
  have hqg := h.lt
  have HQG := Lib.hid hqg
  obtain ⟨N, hN⟩ : ∃ N : Nat, N = s.n / 2 := ⟨_, rfl⟩
  have HN := Lib.hid hN
  have hd : (s.n : Int) / 2 = (N : Int) := by omega
  have hw1 : IntKind.i64.wrap (N : Int) = (N : Int) := IntWalk.i64_in _ (by omega)
  have h4i : ¬ ((s.n : Int) < 4) := by omega
  have HL0 := Lib.hid (fun (W : World) (hs : StR W q g s) => Rlook_read hs 0 0 N (by omega) h4 (by rw [Nat.zero_mul]) hN)
  have HL1 := Lib.hid (fun (W : World) (hs : StR W q g s) => Rlook_read hs 1 N N (by omega) h4 (by rw [Nat.one_mul, hN]) hN)
  rw [show ((0 : Nat) : Int) = 0 from rfl] at HL0
  have HR0 := Lib.hid (readL_range (scanL (partB s (0 * (s.n / 2)) (s.n / 2))))
  have HR1 := Lib.hid (readL_range (scanL (partB s (1 * (s.n / 2)) (s.n / 2))))
  have hr0 : 0 ≤ (halfL s 0).1 := HR0.out.1
  have hr1 : 0 ≤ (halfL s 1).1 := HR1.out.1
  clear h h4 hn hN hqg HR0 HR1
  go_enter Tryz.func8, Tryz.ntmps8
  go_wp2_with fail
  refine (HL0.out _ HS.out).mono ?_
  rintro e w1 ⟨v, rfl, ho1, hrd⟩
  have HO1 := Lib.hid ho1
  have HRD := Lib.hid hrd
  clear ho1 hrd
  go_wp2_with fail
  refine (HRD.out).mono ?_
  rintro e w2 ⟨a1, n1, q1, a2, n2, q2, rfl, ho2, hrow⟩
  have HO2 : Hid (Only [] w w2) := HO1.out.tr ho2
  have HW2 := Lib.hid (hrow.mono HO1.out.size)
  clear ho2 hrow HRD HO1 HL0
  go_wp2_with fail
  refine (HL1.out _ (HS.out.only HO2.out (by simp) (by simp))).mono ?_
  rintro e w3 ⟨v, rfl, ho3, hrd⟩
  have HO3 : Hid (Only [] w w3) := HO2.out.tr ho3
  have HW3 := Lib.hid (HW2.out.keep ho3)
  have HRD := Lib.hid hrd
  clear ho3 hrd HW2 HO2 HL1
  go_wp2_with fail
  refine (HRD.out).mono ?_
  rintro e w4 ⟨a3, n3, q3, a4, n4, q4, rfl, ho4, hrow⟩
  have HO4 : Hid (Only [] w w4) := HO3.out.tr ho4
  have HW4 := Lib.hid (HW3.out.keep ho4)
  have HV4 := Lib.hid (hrow.mono HO3.out.size)
  have HS4 : Hid (StR w4 q g s) := HS.out.only HO4.out (by simp) (by simp)
  clear ho4 hrow HRD HO3 HW3
  by_cases hz : (halfL s 0).1 = 0 ∧ (halfL s 1).1 = 0
  · have hb0 : ((halfL s 0).1 == 0) = true := beq_iff_eq.mpr hz.1
    have hb1 : ((halfL s 1).1 == 0) = true := beq_iff_eq.mpr hz.2
    have HOP : Hid (openH s = (⟨(freshS s 0 N [g1B, liveB]).1, 0, 1, [], [], false⟩, (freshS s 0 N [g1B, liveB]).2)) := by
      show _ = _
      have hu : openU s = 0 := by unfold openU; rw [if_neg (by rw [hz.1, hz.2]; omega)]
      unfold openH
      rw [hu, if_pos hz.1, ← HN.out]
    have HHS : Hid (s.Has 0 N) := by show s.Has 0 N; have := half_has (s := s) (k := 0) (by omega) H4.out; rw [Nat.zero_mul, ← HN.out] at this; exact this
    have HFO := Lib.hid (fresh_ok HS.out.wf HHS.out [g1B, liveB])
    have HFC : Hid (∀ W, StR W q g s → ∀ v, RowA W v [g1B, liveB] q g → Calls Tryz.prog 37 #[.pointer (some ⟨q, 0, none⟩), .int .i64 0, v] W (LayPost s q g 0 N [g1B, liveB] W)) := fun W hs v hv =>
      Rlay_of hs (by have := H4.out; omega) 0 0 N (by omega) (by rw [Nat.zero_mul]) HN.out hv (by decide) (by decide)
    clear hz hr0 hr1
    go_wp2_with fail
    refine (HFC.out _ (HS4.out.only ((Only.refl [] w4).alloc _) (by simp) (by simp)) _ (begin_row w4 _ rfl q g HS4.out.lt.1 HS4.out.lt.2 _)).mono ?_
    rintro e w5 ⟨ho5, hst5, po, rfl, hj5⟩
    have HO5 : Hid (Only [q, g] w w5) := ((HO4.out.alloc _).mono (T := [q, g]) (by simp)).tr ho5
    have HS5 := Lib.hid hst5
    have HJ5 := Lib.hid hj5
    have HSZ : Hid (w.heap.size ≤ (w4.alloc (.cells #[.string { data := #[103, 32, 49] }, .string { data := #[108, 105, 118, 101] }] 9)).heap.size) := by show _ ≤ _; have := HO4.out.size; simp; omega
    clear ho5 hst5 hj5 HFC
    obtain ⟨cc, hcc⟩ : ∃ cc, cc = (freshS s 0 N [g1B, liveB]).2 := ⟨_, rfl⟩
    have HFA : Hid (cc = 0 → (freshS s 0 N [g1B, liveB]).1.l = [g1B, liveB]) := fun h => fresh_all (hcc ▸ h)
    rw [← hcc] at HJ5 HOP ⊢
    clear hcc
    by_cases hc0 : cc = 0
    · subst hc0
      obtain ⟨j, rb, rfl, hj, hrb, hjn⟩ := HJ5.out rfl
      have hsz := HSZ.out
      have HF := Lib.hid (ral_fin (w := w) (W := w5.alloc (.cells #[.pointer (some ⟨q, 0, none⟩), .int .i64 0, .int .i64 1, .slice none 0 0, .slice none 0 0, .pointer (some ⟨j, 0, none⟩), .bool false] 78)) (hh := w5.heap.size) (j := j) (rb := rb) (use := 0) (age := 1) (sn := []) (tl := []) (vs := .slice none 0 0) (vt := .slice none 0 0) (q := q) (g := g) (A := (freshS s 0 N [g1B, liveB]).1) (n := s.n) (blk_new w5 _) (World.ownsRow_nil _ _ _ _) (World.ownsRow_nil _ _ _ _) HO5.out.size HQG.out.2 (HS5.out.only ((Only.refl [] w5).alloc _) (by simp) (by simp)) HFO.out.2 H4.out (by omega)
        (by rw [Nat.zero_mul, ← HN.out]; exact HFO.out.1) (by omega) (fun x hx => by have := hrb x hx; omega) (by rw [Nat.zero_mul, ← HN.out]; exact hjn.only ((Only.refl [] w5).alloc _) (by simp) (fun _ _ => by simp)) (by decide) (Nat.zero_le _) (Nat.zero_le _))
      have HOF : Hid (Only [q, g] w (w5.alloc (.cells #[.pointer (some ⟨q, 0, none⟩), .int .i64 0, .int .i64 1, .slice none 0 0, .slice none 0 0, .pointer (some ⟨j, 0, none⟩), .bool false] 78))) := HO5.out.alloc _
      clear hj hrb hjn HJ5 hsz
      go_wp2_with fail
      go_ret2
      unfold ROpenHP
      rw [HOP.out]
      exact ⟨HOF.out, HF.out.2.st, HFO.out.2, _, rfl, fun h => absurd rfl h, fun _ => ⟨_, rfl, HF.out.1, HF.out.2⟩⟩
    · have hcb : (cc == 0) = false := beq_eq_false_iff_ne.mpr hc0
      go_wp2_with fail
      go_ret2
      unfold ROpenHP
      rw [HOP.out]
      exact ⟨HO5.out, HS5.out, HFO.out.2, none, rfl, fun _ => rfl, fun h => absurd h hc0⟩
  · have hzb : ((halfL s 0).1 == 0 && (halfL s 1).1 == 0) = false := by
      rw [Bool.eq_false_iff]
      intro e
      rw [Bool.and_eq_true, beq_iff_eq, beq_iff_eq] at e
      exact hz e
    have HZ := Lib.hid hz
    have hcase : ((halfL s 0).1 == 0) = false ∨ (((halfL s 0).1 == 0) = true ∧ ((halfL s 1).1 == 0) = false) := by
      cases e0 : ((halfL s 0).1 == 0) with
      | false => exact Or.inl rfl
      | true =>
        right
        rw [e0] at hzb
        exact ⟨rfl, by simpa using hzb⟩
    clear hz hzb
    go_upto_region 6 with (fail)
    go_cut [51] (fun c wc => c = .bool false ∧ wc = w4)
    case first =>
      rcases hcase with e0 | ⟨e0, e1⟩
      · go_wp2_with fail
        go_meet
        case rel => exact ⟨rfl, rfl⟩
      · go_wp2_with fail
        go_meet
        case rel => exact ⟨rfl, rfl⟩
    case rest =>
      obtain ⟨rfl, hwc⟩ := hcut
      subst wc
      clear hcase
      go_upto_if 73 with (fail)
      have HM0 : Hid (¬ (halfL s 0).1 < (halfL s 1).1 → OpenMid s q w (w4.alloc (.cells #[.pointer (some ⟨q, 0, none⟩), .int .i64 0, .int .i64 (halfL s 0).1, .slice a1 n1 q1, .slice a2 n2 q2, .pointer none, .bool false] 78)) (.pointer (some ⟨w4.heap.size, 0, none⟩))) := fun hlt => by
        have hz := HZ.out
        refine ⟨0, w4.heap.size, _, _, rfl, by unfold openU; rw [if_neg hlt], by omega, fun e => hz ⟨e, by omega⟩, HO4.out.alloc _, HO4.out.size, blk_new w4 _, HW4.out.keep ((Only.refl [] w4).alloc _)⟩
      have HM1 : Hid ((halfL s 0).1 < (halfL s 1).1 → OpenMid s q w ((w4.alloc (.cells #[.pointer (some ⟨q, 0, none⟩), .int .i64 0, .int .i64 (halfL s 0).1, .slice a1 n1 q1, .slice a2 n2 q2, .pointer none, .bool false] 78)).alloc (.cells #[.pointer (some ⟨q, 0, none⟩), .int .i64 1, .int .i64 (halfL s 1).1, .slice a3 n3 q3, .slice a4 n4 q4, .pointer none, .bool false] 78)) (.pointer (some ⟨w4.heap.size + 1, 0, none⟩))) := fun hlt => by
        refine ⟨1, w4.heap.size + 1, _, _, rfl, by unfold openU; rw [if_pos hlt], by omega, fun e => by omega, (HO4.out.alloc _).alloc _, by have := HO4.out.size; omega, ?_, HV4.out.keep (((Only.refl [] w4).alloc _).alloc _)⟩
        have h := blk_new (w4.alloc (.cells #[.pointer (some ⟨q, 0, none⟩), .int .i64 0, .int .i64 (halfL s 0).1, .slice a1 n1 q1, .slice a2 n2 q2, .pointer none, .bool false] 78)) (.cells #[.pointer (some ⟨q, 0, none⟩), .int .i64 1, .int .i64 (halfL s 1).1, .slice a3 n3 q3, .slice a4 n4 q4, .pointer none, .bool false] 78)
        rw [show (w4.alloc (.cells #[.pointer (some ⟨q, 0, none⟩), .int .i64 0, .int .i64 (halfL s 0).1, .slice a1 n1 q1, .slice a2 n2 q2, .pointer none, .bool false] 78)).heap.size = w4.heap.size + 1 by simp] at h
        exact h
      go_cut [13] (fun hv wc => Hid (OpenMid s q w wc hv))
      case first =>
        by_cases hlt : (halfL s 0).1 < (halfL s 1).1
        · have HM := Lib.hid (HM1.out hlt)
          go_wp2_with fail
          go_meet
          case rel => exact HM
        · have HM := Lib.hid (HM0.out hlt)
          go_wp2_with fail
          go_meet
          case rel => exact HM
      case rest =>
        obtain ⟨U, hh, vs, vt, rfl, hU, hU1, hne, hon, hge, hb, hr⟩ := hcut.out
        have hh0 := half_has (s := s) hU1 H4.out
        rw [← HN.out] at hh0
        have hqlt := HQG.out
        have HQ : Hid (q ≠ hh ∧ g ≠ hh) := ⟨by omega, by omega⟩
        have HP := Lib.hid (Rpart_half (HS.out.only hon (by simp) (by simp)) (U * N) N hh0)
        have hOP : openH s = (⟨⟨(openS s (U * N) N (frames (scanL (partB s (U * N) N))).length).1, scanL (partB s (U * N) N), (frames (scanL (partB s (U * N) N))).length, false⟩,
            U, (halfL s U).1, (halfL s U).2.1, (halfL s U).2.2, false⟩, (openS s (U * N) N (frames (scanL (partB s (U * N) N))).length).2) := by
          unfold openH
          rw [hU, if_neg hne, ← HN.out]
        have hHU : halfL s U = readL (scanL (partB s (U * N) N)) := by unfold halfL; rw [← HN.out]
        have hsl := readL_len (scanL (partB s (U * N) N))
        have hag := readL_range (scanL (partB s (U * N) N))
        have hag2 := readL_le (scanL (partB s (U * N) N))
        rw [← hHU] at hsl hag hag2
        have HAG : Hid ((1 ≤ (halfL s U).1 ∧ (halfL s U).1 ≤ 999999999999999999) ∧ (halfL s U).2.1.length ≤ (scanL (partB s (U * N) N)).length ∧ (halfL s U).2.2.length ≤ (scanL (partB s (U * N) N)).length) := ⟨⟨by omega, hag2⟩, hsl.1, hsl.2⟩
        have hnn := hopenS_n HS.out.wf (U * N) N (frames (scanL (partB s (U * N) N))).length
        have hscl := scan_len HS.out.wf hh0
        have HOK : Hid (JS.Ok (U * N) N ⟨(openS s (U * N) N (frames (scanL (partB s (U * N) N))).length).1, scanL (partB s (U * N) N), (frames (scanL (partB s (U * N) N))).length, false⟩ ∧ (openS s (U * N) N (frames (scanL (partB s (U * N) N))).length).1.n = s.n) :=
          ⟨⟨hnn.2, by unfold St.Has at hh0 ⊢; rw [hnn.1]; exact hh0, hscl.1, hscl.2⟩, hnn.1⟩
        generalize halfL s U = T at *
        generalize hL : scanL (partB s (U * N) N) = L at *
        generalize (frames L).length = F at *
        obtain ⟨Mx, hMx⟩ : ∃ Mx, Mx = U * N := ⟨_, rfl⟩
        rw [← hMx] at HP hOP HOK
        have HMX := Lib.hid hMx
        have hmul : (U : Int) * (N : Int) = (Mx : Int) := by rw [hMx]; simp
        have hMb : Mx ≤ 256 := by
          have h1 := hh0.2
          have h2 := HS.out.wf.hi
          omega
        have hw2 : IntKind.i64.wrap (Mx : Int) = (Mx : Int) := IntWalk.i64_in _ (by omega)
        have HOP := Lib.hid hOP
        have HU1 := Lib.hid hU1
        have HON := Lib.hid hon
        have HGE := Lib.hid hge
        have HBK := Lib.hid hb
        have HRW := Lib.hid hr
        have c1 : wc.cell? ⟨hh, 1, none⟩ = some (.int .i64 (U : Int)) := blk_cell hb 1
        clear hU hU1 hne hon hge hb hr hOP hHU hsl hag hag2 hnn hscl hL hMx hcut hh0 hqlt HM0 HM1 HW4 HV4 HO4 HS4 hr0 hr1 HZ
        go_wp2_with fail
        refine (HP.out).mono ?_
        rintro e w5 ⟨po, va, vn, vc, rfl, ho5, hst5, hpn, hj5⟩
        have hb5 := ho5.blk HBK.out (by simp; exact ⟨fun e => HQ.out.1 e.symm, fun e => HQ.out.2 e.symm⟩)
        have j5 : w5.cell? ⟨hh, 5, none⟩ = some (.pointer none) := blk_cell hb5 5
        have k5 : w5.frozen? ⟨hh, 5, none⟩ = false := blk_frozen hb5 5
        have HB5 := Lib.hid hb5
        have HO5 := Lib.hid ho5
        have HS5 := Lib.hid hst5
        have HJ5 := Lib.hid hj5
        have HPN := Lib.hid hpn
        clear ho5 hst5 hpn hj5 hb5 HP
        obtain ⟨cc, hcc⟩ : ∃ cc, cc = (openS s Mx N F).2 := ⟨_, rfl⟩
        rw [← hcc] at HJ5 HOP HPN ⊢
        clear hcc
        by_cases hc0 : cc = 0
        · subst hc0
          obtain ⟨j, rb, rfl, hj, hrb, hjn⟩ := HJ5.out rfl
          have hset : Only [hh] w5 (w5.setCell ⟨hh, 5, none⟩ (.pointer (some ⟨j, 0, none⟩))) := (Only.refl _ _).setCell (p := ⟨hh, 5, none⟩) (Or.inl (by simp)) _
          have hhl := blk_lt HBK.out
          have hqg := HQG.out
          have hk1 : ∀ x, w.heap.size ≤ x → x ∉ [q, g] := fun x hx hm => by simp at hm; omega
          have hty : ∀ {x : Nat} {t : TypeId}, (∃ cs f, w5.heap[x]? = some (.cells cs t f)) → t ≠ 78 → x ∉ [hh] := fun hx e hm => ty_ne hx ⟨_, _, HB5.out⟩ e (List.mem_singleton.1 hm)
          have r1 := own_keep HRW.out.s HO5.out (fun x hx => hk1 x (HRW.out.s.lt x hx).1)
          have r2 := own_keep HRW.out.t HO5.out (fun x hx => hk1 x (HRW.out.t.lt x hx).1)
          have HF := Lib.hid (ral_fin (w := w) (W := w5.setCell ⟨hh, 5, none⟩ (.pointer (some ⟨j, 0, none⟩))) (hh := hh) (j := j) (rb := rb) (use := U) (age := T.1) (sn := T.2.1) (tl := T.2.2) (vs := vs) (vt := vt) (q := q) (g := g) (A := ⟨(openS s Mx N F).1, L, F, false⟩) (n := s.n) (blk_set HB5.out 5 _)
            (own_keep r1 hset (fun x hx => hty (own_type r1 hx) (by decide))) (own_keep r2 hset (fun x hx => hty (own_type r2 hx) (by decide))) HGE.out hqg.2 (HS5.out.only hset (by simp; exact HQ.out.1) (by simp; exact HQ.out.2)) HOK.out.2 H4.out HU1.out
            (by rw [← HN.out, ← HMX.out]; exact HOK.out.1) (by have := HON.out.size; omega) (fun x hx => by have := HON.out.size; have := hrb x hx; omega) (by rw [← HN.out, ← HMX.out]; exact hjn.only hset (by simp; omega) (fun x hx => by have := hrb x hx; simp; omega)) HAG.out.1 HAG.out.2.1 HAG.out.2.2)
          have HOF : Hid (Only [q, g] w (w5.setCell ⟨hh, 5, none⟩ (.pointer (some ⟨j, 0, none⟩)))) := ((HON.out.mono (T := [q, g]) (by simp)).tr HO5.out).setCell (p := ⟨hh, 5, none⟩) (Or.inr HGE.out) _
          clear hj hrb hjn HJ5 hset hhl hqg hk1 hty r1 r2
          go_wp2_with fail
          go_ret2
          unfold ROpenHP
          rw [HOP.out]
          exact ⟨HOF.out, HF.out.2.st, HOK.out.2, _, rfl, fun h => absurd rfl h, fun _ => ⟨_, rfl, HF.out.1, HF.out.2⟩⟩
        · have hcb : (cc == 0) = false := beq_eq_false_iff_ne.mpr hc0
          have HOF : Hid (Only [q, g] w w5) := (HON.out.mono (T := [q, g]) (by simp)).tr HO5.out
          go_wp2_with fail
          go_ret2
          unfold ROpenHP
          rw [HOP.out]
          exact ⟨HOF.out, HS5.out, HOK.out.2, none, rfl, fun _ => rfl, fun h => absurd h hc0⟩
end Go.Proofs.YtngcdkbnljoodaaGreatDoor

