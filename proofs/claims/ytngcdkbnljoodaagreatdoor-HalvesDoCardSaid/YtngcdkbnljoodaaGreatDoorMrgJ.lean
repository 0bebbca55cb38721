/- The document's halves: Append walks. No conditions beyond those typed. The document's halves: Compact and Alike walk. No conditions beyond those typed. The document's halves: Compact walks. No conditions beyond those typed. -/
import Derived.Test.YtngcdkbnljoodaaGreatDoorMrgI
namespace Go.Proofs.YtngcdkbnljoodaaGreatDoor
set_option linter.unusedVariables false
set_option linter.unusedSimpArgs false
open Go.RowKit Go.Proofs.YtngcdkbnljoodaaGreatDoorW.PrintWords

def RapPost (B : HB) (q g : Nat) (H : HT) (c : Int) (w : World) (e : Ending) (w' : World) : Prop :=
  e = .returned (.int .i64 c) ∧ Only ([q, g] ++ B.own) w w' ∧ ∃ B' : HB, B'.h = B.h ∧ (∀ x, x ∈ B'.own → x ∈ B.own ∨ w.heap.size ≤ x) ∧ RalIs w' B' q g H
theorem RapPost.same {B : HB} {q g : Nat} {H : HT} {c : Int} {w w' : World} (h : RalIs w B q g H) (ho : Only [] w w') : RapPost B q g H c w (.returned (.int .i64 c)) w' := ⟨rfl, ho.mono (by simp), B, rfl, fun x hx => Or.inl hx, h.keep ho⟩
theorem RalIs.cells {w : World} {B : HB} {q g : Nat} {H : HT} (h : RalIs w B q g H) : ∃ a1 n1 q1 a2 n2 q2, w.heap[B.h]? = some (.cells (halC q H.use H.age (.slice a1 n1 q1) (.slice a2 n2 q2) (some ⟨B.j, 0, none⟩) H.down) 78 (0, 0)) ∧ w.ownsRow 0 9 1 (.slice a1 n1 q1) H.sn.length (H.sn.map strV) ∧ w.ownsRow 0 9 1 (.slice a2 n2 q2) H.tl.length (H.tl.map strV) ∧
    (Value.slice a1 n1 q1).ownBlock = B.bs ∧ (Value.slice a2 n2 q2).ownBlock = B.bt := by
  obtain ⟨vs, vt, hb, hr, ht, h1, h2⟩ := h.ex
  obtain ⟨a1, n1, q1, rfl⟩ := own_slice hr
  obtain ⟨a2, n2, q2, rfl⟩ := own_slice ht
  exact ⟨a1, n1, q1, a2, n2, q2, hb, hr, ht, h1, h2⟩
/-- The document's journal in halves gets a record. -/
theorem ral_japp {w : World} {B : HB} {q g : Nat} {H : HT} (h : RalIs w B q g H) (d : ByteArray) : Calls Tryz.prog 40 #[.pointer (some ⟨B.j, 0, none⟩), .string d] w fun e w' =>
    e = .returned (.int .i64 (H.J.app (H.use * (H.J.s.n / 2)) (H.J.s.n / 2) d.data.toList).2) ∧ Only ([q, g] ++ B.own) w w' ∧
      ∃ rb', (∀ x, x ∈ ({ B with rb := rb' } : HB).own → x ∈ B.own ∨ w.heap.size ≤ x) ∧ RalIs w' { B with rb := rb' } q g { H with J := (H.J.app (H.use * (H.J.s.n / 2)) (H.J.s.n / 2) d.data.toList).1 } := by
  obtain ⟨vs, vt, hb, hr, ht, h1, h2⟩ := h.ex
  have hrg : ∀ x, B.rb = some x → x ≠ g := fun x hx => h.rg x (by simp [HB.own, hx])
  refine (Rapp_any h.st h.jn h.ok hrg d).mono ?_
  rintro e w' ⟨rfl, ho, hst, rb', hrb, hjn⟩
  have hok := JS.app_ok h.ok d.data.toList
  have hnn : (H.J.app (H.use * (H.J.s.n / 2)) (H.J.s.n / 2) d.data.toList).1.s.n = H.J.s.n := hok.2
  have hlen : H.J.l.length ≤ (H.J.app (H.use * (H.J.s.n / 2)) (H.J.s.n / 2) d.data.toList).1.l.length := by
    rcases JS.app_l (H.use * (H.J.s.n / 2)) (H.J.s.n / 2) H.J d.data.toList with e | e
    · rw [e]; exact Nat.le_refl _
    · rw [e, List.length_append]; omega
  have hlt := h.st.lt
  have hS : ∀ {x : Nat} {t : TypeId}, (∃ cs f, w.heap[x]? = some (.cells cs t f)) → t ≠ 56 → t ≠ 111 → x ≠ g → x ∉ [q, g, B.j] := fun hx e1 e2 e3 hm => by
    simp only [List.mem_cons, List.not_mem_nil, or_false] at hm
    rcases hm with e | e | e
    · exact ty_ne hx h.st.typeQ e1 e
    · exact e3 e
    · exact ty_ne hx h.jn.typeJ e2 e
  have hbh : B.h ∉ [q, g, B.j] := hS ⟨_, _, hb⟩ (by decide) (by decide) (h.rg _ (by simp [HB.own]))
  have hbs : ∀ x, vs.ownBlock = some x → x ∉ [q, g, B.j] := fun x hx => hS (own_type hr hx) (by decide) (by decide) (h.rg _ (by simp [HB.own, h1.symm.trans hx]))
  have hbt : ∀ x, vt.ownBlock = some x → x ∉ [q, g, B.j] := fun x hx => hS (own_type ht hx) (by decide) (by decide) (h.rg _ (by simp [HB.own, h2.symm.trans hx]))
  have hown : ∀ x, x ∈ ({ B with rb := rb' } : HB).own → x ∈ B.own ∨ w.heap.size ≤ x := by
    intro x hx
    simp only [HB.own, List.mem_append, List.mem_cons, List.not_mem_nil, or_false, Option.mem_toList, Option.mem_def] at hx ⊢
    rcases hx with hx | hx | hx | hx
    · exact Or.inl (Or.inl hx)
    · rcases hrb x hx with e | e
      · exact Or.inl (Or.inr (Or.inl e))
      · exact Or.inr e
    · exact Or.inl (Or.inr (Or.inr (Or.inl hx)))
    · exact Or.inl (Or.inr (Or.inr (Or.inr hx)))
  refine ⟨rfl, ho.mono (fun x hx => ?_), rb', hown, hst, by show 4 ≤ St.n _; rw [hnn]; exact h.n4, h.u1, ⟨vs, vt, ho.blk hb hbh, own_keep hr ho hbs, own_keep ht ho hbt, h1, h2⟩, ?_, ?_, fun x hx => ?_, h.ag, Nat.le_trans h.sl hlen, Nat.le_trans h.tll hlen⟩
  · simp only [List.mem_cons, List.not_mem_nil, or_false] at hx
    rcases hx with rfl | rfl | rfl <;> simp [HB.own]
  · show JnR w' B.j rb' q (H.use * (St.n _ / 2)) (St.n _ / 2) _ _ _
    rw [hnn]
    exact hjn
  · show JS.Ok (H.use * (St.n _ / 2)) (St.n _ / 2) _
    rw [hnn]
    exact hok.1
  · rcases hown x hx with e | e
    · exact h.rg x e
    · omega
/-- The tail's row has grown: a new one. -/
theorem RalIs.growT {w w' : World} {B : HB} {q g : Nat} {H : HT} (h : RalIs w B q g H) (ho : Only [] w w') {v : Value} {y : Bs} (hown : w'.ownsRow w.heap.size 9 1 v (H.tl.length + 1) (H.tl.map strV ++ [strV y])) (hll : H.tl.length + 1 ≤ H.J.l.length) :
    (∃ x, w'.cell? ⟨B.h, 4, none⟩ = some x) ∧ w'.frozen? ⟨B.h, 4, none⟩ = false ∧ RapPost B q g { H with tl := H.tl ++ [y] } 0 w (.returned (.int .i64 0)) (w'.setCell ⟨B.h, 4, none⟩ v) := by
  have hk := h.keep ho
  obtain ⟨vs, vt, hb, hr, ht, h1, h2⟩ := hk.ex
  have hset : Only [B.h] w' (w'.setCell ⟨B.h, 4, none⟩ v) := (Only.refl _ _).setCell (p := ⟨B.h, 4, none⟩) (Or.inl (by simp)) _
  have hne : ∀ {x : Nat} {t : TypeId}, (∃ cs f, w'.heap[x]? = some (.cells cs t f)) → t ≠ 78 → x ∉ [B.h] := fun hx e hm => ty_ne hx ⟨_, _, hb⟩ e (List.mem_singleton.1 hm)
  have hltg := h.st.lt.2
  have hgh : g ∉ [B.h] := fun hm => h.rg B.h (by simp [HB.own]) (List.mem_singleton.1 hm).symm
  refine ⟨⟨_, blk_cell hb 4⟩, blk_frozen hb 4, rfl, (ho.mono (by simp)).trans hset (fun x hx => Or.inl (by rw [List.mem_singleton.1 hx]; simp [HB.own])), { B with bt := v.ownBlock }, rfl, fun x hx => ?_, ?_⟩
  · simp only [HB.own, List.mem_append, List.mem_cons, List.not_mem_nil, or_false, Option.mem_toList, Option.mem_def] at hx ⊢
    rcases hx with hx | hx | hx | hx
    · exact Or.inl (Or.inl hx)
    · exact Or.inl (Or.inr (Or.inl hx))
    · exact Or.inl (Or.inr (Or.inr (Or.inl hx)))
    · exact Or.inr (hown.lt x hx).1
  · refine ⟨hk.st.only hset (hne hk.st.typeQ (by decide)) hgh, hk.n4, hk.u1, ⟨vs, v, blk_set hb 4 _, own_keep hr hset (fun x hx => hne (own_type hr hx) (by decide)), ?_, h1, rfl⟩, hk.jn.only hset (hne hk.jn.typeJ (by decide)) (fun x hx => hne (hk.jn.typeR hx) (by decide)), hk.ok, fun x hx => ?_, hk.ag, hk.sl, by show (H.tl ++ [y]).length ≤ _; rw [List.length_append]; exact hll⟩
    · show World.ownsRow _ _ _ _ _ (H.tl ++ [y]).length ((H.tl ++ [y]).map strV)
      rw [List.length_append, List.map_append]
      exact own_mono (own_keep hown hset (fun x hx => hne (own_type hown hx) (by decide))) (Nat.zero_le _)
    · simp only [HB.own, List.mem_append, List.mem_cons, List.not_mem_nil, or_false, Option.mem_toList, Option.mem_def] at hx
      have hin : ∀ {A : Prop}, A → A := fun h => h
      rcases hx with hx | hx | hx | hx
      · exact h.rg x (by simp only [HB.own, List.mem_append, List.mem_cons, List.not_mem_nil, or_false]; exact Or.inl hx)
      · exact h.rg x (by simp only [HB.own, List.mem_append, Option.mem_toList, Option.mem_def]; exact Or.inr (Or.inl hx))
      · exact h.rg x (by simp only [HB.own, List.mem_append, Option.mem_toList, Option.mem_def]; exact Or.inr (Or.inr (Or.inl hx)))
      · have := (hown.lt x hx).1; omega
theorem RalIs.setDown {w : World} {B : HB} {q g : Nat} {H : HT} (h : RalIs w B q g H) (d : Bool) : RalIs (w.setCell ⟨B.h, 6, none⟩ (.bool d)) B q g { H with down := d } := by
  obtain ⟨vs, vt, hb, hr, ht, h1, h2⟩ := h.ex
  have hset : Only [B.h] w (w.setCell ⟨B.h, 6, none⟩ (.bool d)) := (Only.refl _ _).setCell (p := ⟨B.h, 6, none⟩) (Or.inl (by simp)) _
  have hne : ∀ {x : Nat} {t : TypeId}, (∃ cs f, w.heap[x]? = some (.cells cs t f)) → t ≠ 78 → x ∉ [B.h] := fun hx e hm => ty_ne hx ⟨_, _, hb⟩ e (List.mem_singleton.1 hm)
  have hgh : g ∉ [B.h] := fun hm => h.rg B.h (by simp [HB.own]) (List.mem_singleton.1 hm).symm
  exact ⟨h.st.only hset (hne h.st.typeQ (by decide)) hgh, h.n4, h.u1, ⟨vs, vt, blk_set hb 6 _, own_keep hr hset (fun x hx => hne (own_type hr hx) (by decide)), own_keep ht hset (fun x hx => hne (own_type ht hx) (by decide)), h1, h2⟩, h.jn.only hset (hne h.jn.typeJ (by decide)) (fun x hx => hne (h.jn.typeR hx) (by decide)), h.ok, h.rg, h.ag, h.sl, h.tll⟩
theorem own_src {w : World} {base : Nat} {v : Value} {l : List Bs} (h : w.ownsRow base 9 1 v l.length (l.map strV)) : ∃ ao c, v = .slice ao l.length c ∧ (ao = none → l.length = 0 ∧ c = 0) ∧ ∀ W, Only [] w W → ∀ ad, ao = some ad → ∀ j u, (l.map strV)[j]? = some u → W.cell? (ad.add j) = some u := by
  rcases own_cells h with ⟨rfl, hl⟩ | ⟨g, cap, rfl, _, hc⟩
  · have hl0 : l.length = 0 := by
      cases l with
      | nil => rfl
      | cons _ _ => simp at hl
    exact ⟨none, 0, by rw [hl0], fun _ => ⟨hl0, rfl⟩, fun _ _ ad h => by cases h⟩
  · refine ⟨some ⟨g, 0, none⟩, cap, rfl, (fun h => by cases h), fun W hW ad hd j u hu => ?_⟩
    cases hd
    rw [addr_add0]
    rw [List.getElem?_map, Option.map_eq_some_iff] at hu
    obtain ⟨y, hy, rfl⟩ := hu
    exact cell_stay (hc j y hy) hW
set_option maxHeartbeats 4000000 in
set_option maxRecDepth 100000 in
theorem Rappend_of {w : World} {B : HB} {q g : Nat} {H : HT} (h : RalIs w B q g H) (d : ByteArray) (hd : d.size ≤ 140737488355328) :
    Calls Tryz.prog 11 #[.pointer (some ⟨B.h, 0, none⟩), .string d] w (RapPost B q g (H.append d.data.toList).1 (H.append d.data.toList).2 w) := by
  have hdl : d.data.toList.length = d.size := rfl
  have HI := Lib.hid h
  by_cases h398 : (398 : Int) < (d.size : Int)
  · have HA : Hid (H.append d.data.toList = (H, 3)) := by show _ = _; unfold HT.append; rw [if_pos (by omega)]
    clear h hdl hd
    go_enter Tryz.func11, Tryz.ntmps11
    go_wp2_with fail
    go_ret
    rw [HA.out]
    exact RapPost.same HI.out (Only.refl _ _)
  · obtain ⟨a1, n1, q1, a2, n2, q2, hb, hr, ht, h1, h2⟩ := h.cells
    have c6 : w.cell? ⟨B.h, 6, none⟩ = some (.bool H.down) := blk_cell hb 6
    have c5 : w.cell? ⟨B.h, 5, none⟩ = some (.pointer (some ⟨B.j, 0, none⟩)) := blk_cell hb 5
    by_cases hdn : H.down = true
    · have HA : Hid (H.append d.data.toList = (H, 16)) := by show _ = _; unfold HT.append; rw [if_neg (by omega), if_pos hdn]
      rw [hdn] at c6
      clear h hdl hd hb hr ht h1 h2 hdn
      go_enter Tryz.func11, Tryz.ntmps11
      go_wp2_with fail
      go_ret
      rw [HA.out]
      exact RapPost.same HI.out (Only.refl _ _)
    · have hdf : H.down = false := by cases e : H.down; rfl; exact absurd e hdn
      rw [hdf] at c6
      obtain ⟨TB, hTB⟩ : ∃ TB : ByteArray, TB = { data := #[116, 32] } ++ d := ⟨_, rfl⟩
      have hTl : TB.data.toList = [116, 32] ++ d.data.toList := by rw [hTB]; simp
      have hrun : ∀ W : World, (Op.stringOp .add { data := #[116, 32] } d).run Tryz.prog W = .ok (.string TB) W := fun W => by rw [hTB]; exact run_string_add_sum W _ d (by show 2 + d.size ≤ _; omega)
      have HJ := Lib.hid (ral_japp h TB)
      obtain ⟨X, hX⟩ : ∃ X, X = H.J.app (H.use * (H.J.s.n / 2)) (H.J.s.n / 2) TB.data.toList := ⟨_, rfl⟩
      rw [← hX] at HJ
      have HA : Hid (H.append d.data.toList = if X.2 = 0 then ({ H with J := X.1, tl := H.tl ++ [d.data.toList] }, 0) else if X.2 = 16 then ({ H with J := X.1, down := true }, 16) else ({ H with J := X.1 }, X.2)) := by
        show _ = _
        unfold HT.append
        rw [if_neg (by omega), if_neg hdn, ← hTl, ← hX]
      have HXL : Hid (X.2 = 0 → X.1.l.length = H.J.l.length + 1) := fun e => by rw [hX] at e ⊢; rw [JS.app_l0 e, List.length_append]; rfl
      obtain ⟨A, c⟩ := X
      have HTL := Lib.hid h.tll
      have HFW := Lib.hid h.few
      clear h hdl hb hr ht h1 h2 hdn hdf hTl hTB hX
      go_enter Tryz.func11, Tryz.ntmps11
      go_wp2_with fail
      refine (HJ.out).mono ?_
      rintro e w1 ⟨rfl, ho1, rb', hrb1, hi1⟩
      have HO1 := Lib.hid ho1
      have HRB := Lib.hid hrb1
      have HI1 := Lib.hid hi1
      clear ho1 hrb1 hi1 HJ
      by_cases hc0 : c = 0
      · subst hc0
        obtain ⟨vs, vt, hb, hr, ht, h1, h2⟩ := HI1.out.ex
        obtain ⟨ta, tc, rfl, htn, hts⟩ := own_src ht
        have d4 : w1.cell? ⟨B.h, 4, none⟩ = some (.slice ta H.tl.length tc) := blk_cell hb 4
        have d4a : (w1.alloc (.cells #[] 9)).cell? ⟨B.h, 4, none⟩ = some (.slice ta H.tl.length tc) := blk_cell (blk_alloc hb _) 4
        obtain ⟨TN, hTN⟩ : ∃ TN, TN = H.tl.length := ⟨_, rfl⟩
        rw [← hTN] at htn d4 d4a
        have HTN := Lib.hid hTN
        have HTS := Lib.hid hts
        have HTN0 := Lib.hid htn
        have HLE : Hid (TN ≤ 10000) := by show _ ≤ _; rw [hTN]; exact HFW.out.2.1
        obtain ⟨i0, hi, hz0, hz1, hz2⟩ := info_parts string_info
        clear hb hr ht h1 h2 htn hts hTN
        go_wp2_with (at_builtin; refine wpList_append_ext _ rfl _ _ 37 rfl w1.heap.size 9 i0 (.string ByteArray.empty) 1 16 Tryz.underlying37 hi hz0 hz1 hz2 rfl (by decide) _ 0 [] rfl (own_empty w1 _ _ (Nat.le_refl _)) ta TN tc (H.tl.map strV) rfl ?c0 HTN0.out ?c1 ?c2 ?c3 ?c4 ?c5 ?_)
        case c0 => rw [List.length_map, Nat.mul_one]; exact HTN.out.symm
        case c1 => exact HTS.out _ ((Only.refl [] w1).alloc _)
        case c2 => intro u hu; rw [List.mem_map] at hu; obtain ⟨_, _, rfl⟩ := hu; rfl
        case c3 => have := HLE.out; unfold maxLen; omega
        case c4 => have := HLE.out; omega
        case c5 => simp
        intro v9 w9 hown9 hon9 hat9
        have hO9 : Only [] w1 w9 := Only.trans ((Only.refl [] w1).alloc _) hon9 (fun k hm => Or.inr (by have hm2 := own_one hm; omega))
        have HV9 := Lib.hid hown9
        have HO9 := Lib.hid hO9
        clear hown9 hon9 hat9 hO9
        go_wp2_with (at_builtin; refine wpList_append_own_at _ rfl _ _ 37 rfl w1.heap.size 9 i0 (.string ByteArray.empty) 1 16 Tryz.underlying37 hi hz0 hz1 hz2 rfl (by decide) _ _ _ rfl (HV9.out.alloc _) ⟨w9.heap.size, 0, none⟩ 1 1 [.string d] rfl rfl ?d1 ?d2 ?d3 ?d4 ?d5 ?_)
        case d1 => exact news_one w9 _ _
        case d2 => intro u hu; simp at hu; subst hu; rfl
        case d3 => have := HLE.out; unfold maxLen; omega
        case d4 => have := HLE.out; omega
        case d5 => have := HO9.out.size; simp; omega
        intro v10 w10 hown10 hgrow10 hnil10 hat10
        obtain ⟨g10, cap10, rfl⟩ := own_some hown10 (fun e => hnil10 e)
        have hO10 : Only [] w1 w10 := (HO9.out.alloc _).grown hgrow10 (fun k hk => Or.inr (HV9.out.lt k hk).1)
        have hown11 : w10.ownsRow w1.heap.size 9 1 (.slice (some ⟨g10, 0, none⟩) (TN + 1) cap10) (H.tl.length + 1) (H.tl.map strV ++ [strV d.data.toList]) := by rw [strV, mkS_list, ← HTN.out]; exact hown10
        obtain ⟨⟨xw, e1⟩, e2, _, hS, B', hB', hown, hR⟩ := HI1.out.growT (y := d.data.toList) hO10 hown11 (by have h7 := HXL.out trivial; have h8 := HTL.out; show H.tl.length + 1 ≤ A.l.length; omega)
        have HFIN : Hid (RapPost B q g { H with J := A, tl := H.tl ++ [d.data.toList] } 0 w (.returned (.int .i64 0)) (w10.setCell ⟨B.h, 4, none⟩ (.slice (some ⟨g10, 0, none⟩) (TN + 1) cap10))) := by
          refine ⟨rfl, HO1.out.trans hS (fun x hx => ?_), B', hB', fun x hx => ?_, hR⟩
          · rcases List.mem_append.1 hx with h | h
            · exact Or.inl (List.mem_append.2 (Or.inl h))
            · rcases HRB.out x h with e | e
              · exact Or.inl (List.mem_append.2 (Or.inr e))
              · exact Or.inr e
          · rcases hown x hx with e | e
            · exact HRB.out x e
            · have := HO1.out.size; right; omega
        clear hown10 hgrow10 hnil10 hat10 hO10 hown11 hS hB' hown hR
        go_wp2_with fail
        go_ret
        rw [HA.out, if_pos trivial]
        exact HFIN.out
      · have hb0 : (c == 0) = false := beq_eq_false_iff_ne.mpr hc0
        by_cases hc16 : c = 16
        · subst hc16
          obtain ⟨vs, vt, hb, hr, ht, h1, h2⟩ := HI1.out.ex
          have d6 : w1.cell? ⟨B.h, 6, none⟩ = some (.bool H.down) := blk_cell hb 6
          have k6 : w1.frozen? ⟨B.h, 6, none⟩ = false := blk_frozen hb 6
          have HI6 := Lib.hid (HI1.out.setDown true)
          have HO6 : Hid (Only ([q, g] ++ B.own) w (w1.setCell ⟨B.h, 6, none⟩ (.bool true))) := HO1.out.setCell (p := ⟨B.h, 6, none⟩) (Or.inl (by simp [HB.own])) _
          clear hb hr ht h1 h2
          go_wp2_with fail
          go_ret
          rw [HA.out, if_neg (by decide), if_pos trivial]
          exact ⟨rfl, HO6.out, { B with rb := rb' }, rfl, HRB.out, HI6.out⟩
        · have hb16 : (c == 16) = false := beq_eq_false_iff_ne.mpr hc16
          go_wp2_with fail
          go_ret
          rw [HA.out, if_neg hc0, if_neg hc16]
          exact ⟨rfl, HO1.out, { B with rb := rb' }, rfl, HRB.out, HI1.out⟩
end Go.Proofs.YtngcdkbnljoodaaGreatDoor

namespace Go.Proofs.YtngcdkbnljoodaaGreatDoor
set_option linter.unusedVariables false
set_option linter.unusedSimpArgs false
open Go.RowKit Go.Proofs.YtngcdkbnljoodaaGreatDoorW.PrintWords

theorem ral_ne {w : World} {B : HB} {q g : Nat} {H : HT} (h : RalIs w B q g H) : ∀ x, x ∈ B.own → x ≠ q ∧ x ≠ g := by
  intro x hx
  refine ⟨?_, h.rg x hx⟩
  obtain ⟨vs, vt, hb, hr, ht, h1, h2⟩ := h.ex
  unfold HB.own at hx
  simp only [List.mem_append, List.mem_cons, List.not_mem_nil, or_false, Option.mem_toList, Option.mem_def] at hx
  rcases hx with (rfl | rfl) | hx | hx | hx
  · exact ty_ne ⟨_, _, hb⟩ h.st.typeQ (by decide)
  · exact ty_ne h.jn.typeJ h.st.typeQ (by decide)
  · exact ty_ne (h.jn.typeR hx) h.st.typeQ (by decide)
  · exact ty_ne (own_type hr (h1.trans hx)) h.st.typeQ (by decide)
  · exact ty_ne (own_type ht (h2.trans hx)) h.st.typeQ (by decide)
theorem RalIs.store {w w' : World} {B : HB} {q g : Nat} {H : HT} (h : RalIs w B q g H) (ho : Only [q, g] w w') {s' : St} (hs : StR w' q g s') (hn : s'.n = H.J.s.n) : RalIs w' B q g { H with J := { H.J with s := s' } } := by
  have hne := ral_ne h
  obtain ⟨vs, vt, hb, hr, ht, h1, h2⟩ := h.ex
  have hS : ∀ x, x ∈ B.own → x ∉ [q, g] := fun x hx => by simp; exact hne x hx
  have hS2 := hS
  unfold HB.own at hS2
  simp only [List.mem_append, List.mem_cons, List.not_mem_nil, or_false, Option.mem_toList, Option.mem_def] at hS2
  have hk := h.ok
  refine ⟨hs, by show 4 ≤ s'.n; rw [hn]; exact h.n4, h.u1, ⟨vs, vt, ho.blk hb (by have := hS2 B.h (Or.inl (Or.inl rfl)); simpa using this), own_keep hr ho (fun x hx => by have := hS2 x (Or.inr (Or.inr (Or.inl (h1.symm.trans hx)))); simpa using this), own_keep ht ho (fun x hx => by have := hS2 x (Or.inr (Or.inr (Or.inr (h2.symm.trans hx)))); simpa using this), h1, h2⟩, ?_, ?_, h.rg, h.ag, h.sl, h.tll⟩
  · show JnR w' B.j B.rb q (H.use * (s'.n / 2)) (s'.n / 2) H.J.l H.J.fin H.J.o
    rw [hn]
    exact h.jn.only ho (by have := hS2 B.j (Or.inl (Or.inr rfl)); simpa using this) (fun x hx => by have := hS2 x (Or.inr (Or.inl hx)); simpa using this)
  · show JS.Ok (H.use * (s'.n / 2)) (s'.n / 2) { H.J with s := s' }
    rw [hn]
    have hh := hk.has
    exact ⟨hs.wf, by unfold St.Has at hh ⊢; show _ ∧ _ ≤ s'.n; rw [hn]; exact hh, hk.fin, hk.len⟩
/-- The end of a snapshot. -/
theorem rcompact_fin {w wc w8 : World} {B : HB} {q g O : Nat} {H : HT} {G : Int} {sn : List Bs} {j : Nat} {rb : Option Nat} {va : Value} (h : RalIs w B q g H) (hoc : Only [q, g] w wc) (hsc : StR wc q g (freshS H.J.s (O * (H.J.s.n / 2)) (H.J.s.n / 2) (recsL G sn)).1.s) (hc0 : (freshS H.J.s (O * (H.J.s.n / 2)) (H.J.s.n / 2) (recsL G sn)).2 = 0) (hO : O = 1 - H.use)
    (hj : w.heap.size ≤ j) (hrb : ∀ x, rb = some x → w.heap.size ≤ x) (hjn : JnR wc j rb q (O * (H.J.s.n / 2)) (H.J.s.n / 2) (freshS H.J.s (O * (H.J.s.n / 2)) (H.J.s.n / 2) (recsL G sn)).1.l (freshS H.J.s (O * (H.J.s.n / 2)) (H.J.s.n / 2) (recsL G sn)).1.fin (freshS H.J.s (O * (H.J.s.n / 2)) (H.J.s.n / 2) (recsL G sn)).1.o)
    (hG : 1 ≤ G ∧ G ≤ 999999999999999999) (ho8 : Only [] (((wc.setCell ⟨B.h, 1, none⟩ (.int .i64 O)).setCell ⟨B.h, 5, none⟩ (.pointer (some ⟨j, 0, none⟩))).setCell ⟨B.h, 2, none⟩ (.int .i64 G)) w8) (hown : w8.ownsRow wc.heap.size 9 1 va sn.length (sn.map strV)) :
    (∃ a3 a4, w8.cell? ⟨B.h, 3, none⟩ = some a3 ∧ w8.cell? ⟨B.h, 4, none⟩ = some a4) ∧ w8.frozen? ⟨B.h, 3, none⟩ = false ∧ w8.frozen? ⟨B.h, 4, none⟩ = false ∧
      RapPost B q g { H with J := (freshS H.J.s (O * (H.J.s.n / 2)) (H.J.s.n / 2) (recsL G sn)).1, use := O, age := G, sn := sn, tl := [] } 0 w (.returned (.int .i64 0)) ((w8.setCell ⟨B.h, 3, none⟩ va).setCell ⟨B.h, 4, none⟩ (.slice none 0 0)) := by
  have hu := h.u1
  have hlw := ral_lt h
  have hhas : H.J.s.Has (O * (H.J.s.n / 2)) (H.J.s.n / 2) := half_has (by omega) h.n4
  obtain ⟨hok, hn⟩ := fresh_ok h.st.wf hhas (recsL G sn)
  have hall := fresh_all hc0
  have hne := ral_ne h
  have hbh : B.h < w.heap.size := hlw _ (by simp [HB.own])
  have hbq := hne B.h (by simp [HB.own])
  obtain ⟨vs, vt, hbc⟩ : ∃ vs vt, wc.heap[B.h]? = some (.cells (halC q H.use H.age vs vt (some ⟨B.j, 0, none⟩) H.down) 78 (0, 0)) := by
    obtain ⟨vs, vt, hb, _⟩ := h.ex
    exact ⟨vs, vt, hoc.blk hb (by simp; exact hbq)⟩
  have hb8 := ho8.blk (blk_set (blk_set (blk_set hbc 1 (.int .i64 O)) 5 (.pointer (some ⟨j, 0, none⟩))) 2 (.int .i64 G)) (by simp)
  have hs1 : Only [B.h] wc (((wc.setCell ⟨B.h, 1, none⟩ (.int .i64 O)).setCell ⟨B.h, 5, none⟩ (.pointer (some ⟨j, 0, none⟩))).setCell ⟨B.h, 2, none⟩ (.int .i64 G)) := (((Only.refl _ _).setCell (p := ⟨B.h, 1, none⟩) (Or.inl (by simp)) _).setCell (p := ⟨B.h, 5, none⟩) (Or.inl (by simp)) _).setCell (p := ⟨B.h, 2, none⟩) (Or.inl (by simp)) _
  have hs2 : Only [B.h] w8 ((w8.setCell ⟨B.h, 3, none⟩ va).setCell ⟨B.h, 4, none⟩ (.slice none 0 0)) := ((Only.refl _ _).setCell (p := ⟨B.h, 3, none⟩) (Or.inl (by simp)) _).setCell (p := ⟨B.h, 4, none⟩) (Or.inl (by simp)) _
  have hall8 : Only [B.h] wc ((w8.setCell ⟨B.h, 3, none⟩ va).setCell ⟨B.h, 4, none⟩ (.slice none 0 0)) := (hs1.tr (ho8.mono (by simp))).tr hs2
  have hst8 : ∀ y, y ∈ [B.h] → ∃ cs t f, w8.heap[y]? = some (.cells cs t f) ∧ t ≠ 9 := fun y hy => by rw [List.mem_singleton.1 hy]; exact ⟨_, _, _, hb8, by decide⟩
  have hown2 := own_of_only hown hs2 hst8
  have hgv : ∀ y, va.ownBlock = some y → wc.heap.size ≤ y := fun y hy => (hown.lt y hy).1
  have hw := hoc.size
  have hownB : ∀ x, x ∈ (HB.mk B.h j rb va.ownBlock none).own → x ∈ B.own ∨ w.heap.size ≤ x := by
    intro x hx
    simp only [HB.own, List.mem_append, List.mem_cons, List.not_mem_nil, or_false, Option.mem_toList, Option.mem_def] at hx
    rcases hx with (rfl | rfl) | hx | hx | hx
    · exact Or.inl (by simp [HB.own])
    · exact Or.inr hj
    · exact Or.inr (hrb x hx)
    · have := hgv x hx; right; omega
    · cases hx
  refine ⟨⟨_, _, blk_cell hb8 3, blk_cell hb8 4⟩, blk_frozen hb8 3, blk_frozen hb8 4, rfl, ?_, ⟨B.h, j, rb, va.ownBlock, none⟩, rfl, hownB, ?_⟩
  · refine (hoc.mono (fun x hx => List.mem_append.2 (Or.inl hx))).tr (hall8.mono (fun x hx => ?_))
    rw [List.mem_singleton.1 hx]; simp [HB.own]
  · have hn2 : (freshS H.J.s (O * (H.J.s.n / 2)) (H.J.s.n / 2) (recsL G sn)).1.s.n = H.J.s.n := hn
    refine ⟨hsc.only hall8 (by simp; exact fun e => hbq.1 e.symm) (by simp; exact fun e => hbq.2 e.symm), by show 4 ≤ _; rw [hn2]; exact h.n4, by show O ≤ 1; omega,
      ⟨va, .slice none 0 0, blk_set (blk_set hb8 3 va) 4 (.slice none 0 0), own_mono hown2 (Nat.zero_le _), World.ownsRow_nil _ _ _ _, rfl, rfl⟩, ?_, ?_, fun x hx => ?_, hG, ?_, Nat.zero_le _⟩
    · show JnR _ j rb q (O * (_ / 2)) (_ / 2) _ _ _
      rw [hn2]
      exact hjn.only hall8 (by simp; intro e; omega) (fun x hx => by have := hrb x hx; simp; intro e; omega)
    · show JS.Ok (O * (_ / 2)) (_ / 2) _
      rw [hn2]
      exact hok
    · rcases hownB x hx with e | e
      · exact (hne x e).2
      · have := h.st.lt.2; omega
    · show sn.length ≤ (freshS H.J.s (O * (H.J.s.n / 2)) (H.J.s.n / 2) (recsL G sn)).1.l.length
      rw [hall]
      unfold recsL
      simp
      omega
/-- What a snapshot's laying leaves. -/
def RCo (w wc : World) (q g : Nat) (s0 : St) (pf nb : Nat) (rs : List Bs) (po : Option Addr) (c : Int) : Prop :=
  Only [q, g] w wc ∧ StR wc q g (freshS s0 pf nb rs).1.s ∧ c = (freshS s0 pf nb rs).2 ∧
    (c = 0 → ∃ j rb, po = some ⟨j, 0, none⟩ ∧ w.heap.size ≤ j ∧ (∀ x, rb = some x → w.heap.size ≤ x) ∧ JnR wc j rb q pf nb (freshS s0 pf nb rs).1.l (freshS s0 pf nb rs).1.fin (freshS s0 pf nb rs).1.o)
theorem RCo.of {w w6 w7 : World} {q g : Nat} {s0 : St} {pf nb : Nat} {rs : List Bs} {po : Option Addr} (ho : Only [] w w6) (h1 : Only [q, g] w6 w7) (h2 : StR w7 q g (freshS s0 pf nb rs).1.s)
    (h3 : (freshS s0 pf nb rs).2 = 0 → ∃ j rb, po = some ⟨j, 0, none⟩ ∧ w6.heap.size ≤ j ∧ (∀ x, rb = some x → w6.heap.size ≤ x) ∧ JnR w7 j rb q pf nb (freshS s0 pf nb rs).1.l (freshS s0 pf nb rs).1.fin (freshS s0 pf nb rs).1.o) : RCo w w7 q g s0 pf nb rs po (freshS s0 pf nb rs).2 := by
  refine ⟨(ho.mono (by simp)).tr h1, h2, rfl, fun h0 => ?_⟩
  obtain ⟨j, rb, e, a, b, c⟩ := h3 h0
  have := ho.size
  exact ⟨j, rb, e, by omega, fun x hx => by have := b x hx; omega, c⟩
end Go.Proofs.YtngcdkbnljoodaaGreatDoor

namespace Go.Proofs.YtngcdkbnljoodaaGreatDoor
set_option linter.unusedVariables false
set_option linter.unusedSimpArgs false
open Go.RowKit Go.Proofs.YtngcdkbnljoodaaGreatDoorW.PrintWords

set_option maxHeartbeats 8000000 in
set_option maxRecDepth 100000 in
theorem Rcompact_of {w : World} {B : HB} {q g : Nat} {H : HT} (h : RalIs w B q g H) {v : Value} {sn : List Bs} (hv : RowA w v sn q g) (hv2 : RowA w v sn B.h B.h) (hl : sn.length * 16 ≤ 140737488351232) (hx : ∀ x ∈ sn, x.length ≤ 140737488355328) (hor : wideL sn = true ∨ sn.length ≤ 10000) (hzz : v = .slice none 0 0 ∨ ∃ ad n c, v = .slice (some ad) n c) :
    Calls Tryz.prog 13 #[.pointer (some ⟨B.h, 0, none⟩), v] w (RapPost B q g (H.compact sn).1 (H.compact sn).2 w) := by
  obtain ⟨a, cap, rfl, hc⟩ := hv
  have HC3 : Hid (∀ k x, sn[k]? = some x → ∃ ad, a = some ad ∧ ad.block ∉ [q, g, B.h] ∧ w.cell? (ad.add k) = some (strV x)) := fun k x hx => by
    obtain ⟨a', c', he, hc'⟩ := hv2
    injection he with e1 e2 e3
    subst e1
    obtain ⟨ad, rfl, h1, h2, h3⟩ := hc k x hx
    obtain ⟨ad2, e, h4, _, _⟩ := hc' k x hx
    cases e
    exact ⟨ad, rfl, by simp; exact ⟨h1, h2, h4⟩, h3⟩
  have HI := Lib.hid h
  have HC := Lib.hid hc
  have HX := Lib.hid hx
  have HOR := Lib.hid hor
  clear hor
  have HZ0 : Hid (a = none → sn.length = 0 ∧ cap = 0) := fun e => by
    rw [e] at hzz
    rcases hzz with hz | ⟨_, _, _, hz⟩
    · injection hz with _ e1 e2
      exact ⟨e1, e2⟩
    · cases hz
  clear hzz
  obtain ⟨M, hM⟩ : ∃ M, M = sn.length := ⟨_, rfl⟩
  rw [← hM] at hl ⊢
  have HM := Lib.hid hM
  obtain ⟨a1, n1, q1, a2, n2, q2, hb, hr, ht, h1, h2⟩ := h.cells
  have c2 : w.cell? ⟨B.h, 2, none⟩ = some (.int .i64 H.age) := blk_cell hb 2
  have hage := h.ag
  obtain ⟨G, hG⟩ : ∃ G : Int, G = H.age + 1 := ⟨_, rfl⟩
  have hg1 : H.age + 1 = G := hG.symm
  have hg2 : IntKind.i64.wrap G = G := IntWalk.i64_in _ (by omega)
  obtain ⟨u, hu⟩ := Int.eq_ofNat_of_zero_le (show 0 ≤ G by omega)
  have HDG := Lib.hid (Rdigits_of u (by omega))
  rw [← itoa_nat, ← hu] at HDG
  obtain ⟨IT, hIT⟩ : ∃ IT : ByteArray, IT = mkS (Lib.itoa G) := ⟨_, rfl⟩
  rw [← hIT] at HDG
  have hITs : IT.size ≤ 100 := by rw [hIT, size_mkS]; have := Lib.itoa_length_le G (by omega) (by omega); omega
  obtain ⟨GB, hGB⟩ : ∃ GB : ByteArray, GB = { data := #[103, 32] } ++ IT := ⟨_, rfl⟩
  have HGB : Hid (Value.string GB = strV (ageB G)) := by show _ = _; rw [hGB, hIT]; unfold strV ageB; congr 1
  have hrun : ∀ W : World, (Op.stringOp .add { data := #[103, 32] } IT).run Tryz.prog W = .ok (.string GB) W := fun W => by rw [hGB]; exact run_string_add_sum W _ IT (by show 2 + IT.size ≤ _; omega)
  have HGG : Hid (G = H.age + 1 ∧ 2 ≤ G ∧ G ≤ 1000000000000000000) := ⟨hG, by omega, by omega⟩
  clear h hb hr ht h1 h2 hc hx hM hG hu hIT hGB hage hv2
  go_enter Tryz.func13, Tryz.ntmps13
  go_wp2_with fail
  refine (HDG.out w).mono ?_
  rintro e w9 ⟨rfl, hw⟩
  subst w9
  go_wp2_with fail
  have HQ : Hid (CoIn w (w.alloc (.cells #[.string GB] 9)) G sn 0 (.slice (some ⟨w.heap.size, 0, none⟩) 1 1) ∧ wideL (sn.take 0) = false) := ⟨⟨by rw [HGB.out]; exact own_single w _ _ _ (Nat.le_refl _), (Only.refl [] w).alloc _⟩, rfl⟩
  go_loopw [5, 6] (fun rv iv wq => ∃ (k : Nat), iv = .int .i64 (k : Int) ∧ k ≤ M ∧ Hid (CoIn w wq G sn k rv ∧ wideL (sn.take k) = false)) (fun _ iv _ => M - (intOf iv).toNat)
  case atStart => exact ⟨0, rfl, Nat.zero_le _, HQ⟩
  case round =>
    clear HQ
    obtain ⟨k, rfl, hk, HQ⟩ := hrel
    by_cases hqM : k < M
    · obtain ⟨x, hx⟩ : ∃ x, sn[k]? = some x := ⟨_, List.getElem?_eq_getElem (by have := HM.out; omega)⟩
      obtain ⟨ad, rfl, _, _, hcx⟩ := rowA_keep (S := []) (by simp) HC.out HQ.out.1.on k x hx
      unfold strV at hcx
      have d1 : (k : Int) < (M : Int) := by omega
      have d0 : (0 : Int) ≤ (k : Int) := by omega
      have hwr : IntKind.i64.wrap ((k : Int) + 1) = (k : Int) + 1 := IntWalk.i64_in _ (by omega)
      obtain ⟨XB, hXB⟩ : ∃ XB, XB = mkS x := ⟨_, rfl⟩
      rw [← hXB] at hcx
      have hXs : XB.size = x.length := by rw [hXB, size_mkS]
      by_cases h398 : 398 < (XB.size : Int)
      · have HA : Hid (H.compact sn = (H, 3)) := by
          have hw : wideL sn = true := List.any_eq_true.2 ⟨x, List.mem_of_getElem? hx, decide_eq_true (by omega)⟩
          show _ = _
          unfold HT.compact
          rw [if_pos hw]
        clear hx hXB hXs
        go_wp2_with fail
        go_ret
        rw [HA.out]
        exact RapPost.same HI.out HQ.out.1.on
      · obtain ⟨SB, hSB⟩ : ∃ SB : ByteArray, SB = { data := #[115, 32] } ++ XB := ⟨_, rfl⟩
        have hrun2 : ∀ W : World, (Op.stringOp .add { data := #[115, 32] } XB).run Tryz.prog W = .ok (.string SB) W := fun W => by rw [hSB]; exact run_string_add_sum W _ XB (by show 2 + XB.size ≤ _; omega)
        have HSB : Hid (Value.string SB = strV (snB x)) := by show _ = _; rw [hSB, hXB]; unfold strV snB; congr 1
        have HTK : Hid (sn.take (k + 1) = sn.take k ++ [x]) := by
          obtain ⟨h1, h2⟩ := List.getElem?_eq_some_iff.1 hx
          show _ = _
          rw [List.take_succ_eq_append_getElem h1, h2]
        have HWD : Hid (wideL (sn.take (k + 1)) = false) := by
          show _ = _
          rw [wideL_take hx, HQ.out.2]
          simp
          omega
        have HOWN := Lib.hid (own_keep HQ.out.1.own ((Only.refl [] wr).alloc (.cells #[.string SB] 9)) (by simp))
        obtain ⟨i0, hi, hz0, hz1, hz2⟩ := info_parts string_info
        clear hx hSB hXB hXs
        go_wp2_with (at_builtin; refine wpList_append_own_at _ rfl _ _ 37 rfl w.heap.size 9 i0 (.string ByteArray.empty) 1 16 Tryz.underlying37 hi hz0 hz1 hz2 rfl (by decide) _ _ _ rfl HOWN.out ⟨wr.heap.size, 0, none⟩ 1 1 [.string SB] rfl rfl ?c1 ?c2 ?c3 ?c4 ?c5 ?_)
        try (case c1 => exact news_one wr _ _)
        case c2 => first | rfl | (intro u hu; simp at hu; subst hu; rfl)
        case c3 => have := hl; unfold maxLen; omega
        case c4 => have := hl; omega
        case c5 => have := HQ.out.1.on.size; simp; omega
        intro v6 w6 hown6 hgrow6 hnil6 hat6
        have HQ6 : Hid (CoIn w w6 G sn (k + 1) v6 ∧ wideL (sn.take (k + 1)) = false) := by
          refine ⟨⟨?_, (HQ.out.1.on.alloc _).grown hgrow6 (fun y hy => Or.inr (HQ.out.1.own.lt y hy).1)⟩, HWD.out⟩
          rw [HTK.out, List.map_append, ← List.cons_append, List.map_append]
          rw [HSB.out] at hown6
          exact (by simpa using hown6)
        clear hown6 hgrow6 hnil6 hat6
        go_wp2_with fail
        go_roundw
        case rel => exact ⟨k + 1, rfl, by omega, HQ6⟩
        case measure => simp [intOf]; omega
    · have d1 : ¬ (k : Int) < (M : Int) := by omega
      have hqe : k = M := by omega
      have htk : sn.take M = sn := List.take_of_length_le (by have := HM.out; omega)
      have HQF : Hid (wr.ownsRow w.heap.size 9 1 u5 (M + 1) ((ageB G :: sn.map snB).map strV)) := by
        have := HQ.out.1.own
        rw [hqe, htk] at this
        exact this
      have hwf : wideL sn = false := by have := HQ.out.2; rw [hqe, htk] at this; exact this
      have HWF := Lib.hid hwf
      have HOF := Lib.hid HQ.out.1.on
      clear HQ hqe htk hwf
      have HI2 := Lib.hid (HI.out.keep HOF.out)
      obtain ⟨vs, vt, hb, hr, ht, h1, h2⟩ := HI2.out.ex
      have g0 : wr.cell? ⟨B.h, 0, none⟩ = some (.pointer (some ⟨q, 0, none⟩)) := blk_cell hb 0
      have g1 : wr.cell? ⟨B.h, 1, none⟩ = some (.int .i64 H.use) := blk_cell hb 1
      have g2 : wr.cell? ⟨B.h, 2, none⟩ = some (.int .i64 H.age) := blk_cell hb 2
      have g6 : wr.cell? ⟨B.h, 6, none⟩ = some (.bool H.down) := blk_cell hb 6
      have c0a : (wr.alloc (.cells #[.string { data := #[108, 105, 118, 101] }] 9)).cell? ⟨B.h, 0, none⟩ = some (.pointer (some ⟨q, 0, none⟩)) := blk_cell (blk_alloc hb _) 0
      have c1a : (wr.alloc (.cells #[.string { data := #[108, 105, 118, 101] }] 9)).cell? ⟨B.h, 1, none⟩ = some (.int .i64 H.use) := blk_cell (blk_alloc hb _) 1
      clear hb hr ht h1 h2
      by_cases hag : 999999999999999999 ≤ H.age
      · have HA : Hid (H.compact sn = (H, 4)) := by show _ = _; unfold HT.compact; rw [if_neg (by rw [HWF.out]; simp), if_pos hag]
        go_wp2_with fail
        go_ret
        rw [HA.out]
        exact RapPost.same HI.out HOF.out
      · by_cases hdn : H.down = true
        · have HA : Hid (H.compact sn = (H, 16)) := by show _ = _; unfold HT.compact; rw [if_neg (by rw [HWF.out]; simp), if_neg hag, if_pos hdn]
          rw [hdn] at g6
          clear hdn
          go_wp2_with fail
          go_ret
          rw [HA.out]
          exact RapPost.same HI.out HOF.out
        · have hdf : H.down = false := by cases e : H.down; rfl; exact absurd e hdn
          rw [hdf] at g6
          have HA : Hid (H.compact sn = if (freshS H.J.s ((1 - H.use) * (H.J.s.n / 2)) (H.J.s.n / 2) (recsL G sn)).2 = 0 then
              ({ H with J := (freshS H.J.s ((1 - H.use) * (H.J.s.n / 2)) (H.J.s.n / 2) (recsL G sn)).1, use := 1 - H.use, age := G, sn := sn, tl := [] }, 0)
            else ({ H with J := { H.J with s := (freshS H.J.s ((1 - H.use) * (H.J.s.n / 2)) (H.J.s.n / 2) (recsL G sn)).1.s }, down := (freshS H.J.s ((1 - H.use) * (H.J.s.n / 2)) (H.J.s.n / 2) (recsL G sn)).2 == 16 }, (freshS H.J.s ((1 - H.use) * (H.J.s.n / 2)) (H.J.s.n / 2) (recsL G sn)).2)) := by
            show _ = _
            unfold HT.compact
            rw [if_neg (by rw [HWF.out]; simp), if_neg hag, if_neg hdn, hg1]
          have hagn : H.age < 999999999999999999 := by omega
          have HG9 : Hid (1 ≤ G ∧ G ≤ 999999999999999999) := by have := HGG.out; exact ⟨by omega, by omega⟩
          have hX398 : Hid (∀ x ∈ sn, x.length ≤ 398) := fun x hx => by
            rcases Nat.lt_or_ge 398 x.length with h9 | h9
            · have := HWF.out
              rw [show wideL sn = true from List.any_eq_true.2 ⟨x, hx, decide_eq_true h9⟩] at this
              cases this
            · exact h9
          obtain ⟨O, hO⟩ : ∃ O : Nat, O = 1 - H.use := ⟨_, rfl⟩
          have hu1 := HI.out.u1
          have o1 : (1 : Int) - (H.use : Int) = (O : Int) := by omega
          have o2 : IntKind.i64.wrap (O : Int) = (O : Int) := IntWalk.i64_in _ (by omega)
          have HO := Lib.hid hO
          obtain ⟨i0, hi, hz0, hz1, hz2⟩ := info_parts string_info
          have HLM : Hid (M ≤ 8796093022000) := by show _ ≤ _; omega
          have hbig : M ≤ 90000 := by
            rcases HOR.out with h | h
            · rw [HWF.out] at h; cases h
            · rw [HM.out]; omega
          have HFRE : Hid (∀ (w6 : World) (v9 : Value), w6.ownsRow w.heap.size 9 1 v9 (M + 1 + 1) ((ageB G :: sn.map snB).map strV ++ [.string { data := #[108, 105, 118, 101] }]) → Only [] w w6 →
              Calls Tryz.prog 37 #[.pointer (some ⟨q, 0, none⟩), .int .i64 (O : Int), v9] w6 (LayPost H.J.s q g (O * (H.J.s.n / 2)) (H.J.s.n / 2) (recsL G sn) w6)) := by
            intro w6 v9 h6 ho6
            have hs6 := HI.out.st.only ho6 (by simp) (by simp)
            have hrl : (recsL G sn).length = M + 1 + 1 := by unfold recsL; simp [HM.out]
            have h4 := HI.out.n4
            have hlt := HI.out.st.lt
            have h6' : w6.ownsRow w.heap.size 9 1 v9 (recsL G sn).length ((recsL G sn).map strV) := by rw [hrl]; unfold recsL; rw [List.map_append]; exact h6
            have hrow : RowA w6 v9 (recsL G sn) q g := by
              rcases own_cells h6' with ⟨rfl, hn⟩ | ⟨gg, cc, rfl, _, hcc⟩
              · have : (recsL G sn).length = 0 := by rw [← List.length_map (f := strV), hn]; rfl
                omega
              · have hge := (h6'.lt gg rfl).1
                exact ⟨_, cc, rfl, fun k x hx => ⟨_, rfl, by show gg ≠ q; omega, by show gg ≠ g; omega, by rw [addr_add0]; exact hcc k x hx⟩⟩
            refine Rlay_of hs6 (by omega) O _ _ (by have := HO.out; omega) rfl rfl hrow (by omega) (fun x hx => ?_)
            unfold recsL at hx
            simp only [List.cons_append, List.mem_cons, List.mem_append, List.mem_map, List.not_mem_nil, or_false] at hx
            rcases hx with rfl | ⟨y, hy, rfl⟩ | rfl
            · have := Lib.itoa_length_le G (by have := HGG.out; omega) (by have := HGG.out; omega)
              unfold ageB
              rw [List.length_append]
              simp
              omega
            · have := hX398.out y hy
              unfold snB
              rw [List.length_append]
              simp
              omega
            · decide
          have HSZ := Lib.hid HOF.out.size
          have HROW := Lib.hid (fun (W : World) (hW : Only [] wr W) => own_keep HQF.out hW (by simp))
          clear hO hu1 hdn hdf hag
          go_upto_region 12 with (fail)
          go_cut [7, 8] (fun jv ev wc => ∃ (po : Option Addr) (c : Int), jv = .pointer po ∧ ev = .int .i64 c ∧ Hid (RCo w wc q g H.J.s (O * (H.J.s.n / 2)) (H.J.s.n / 2) (recsL G sn) po c))
          case first =>
            go_region_law (first | (refine step_append_ext _ (by rfl) _ _ 37 (by rfl) w.heap.size 9 i0 (.string ByteArray.empty) 1 16 Tryz.underlying37 hi hz0 hz1 hz2 rfl (by decide) u5 _ _ (by rfl) (HROW.out _ (((Only.refl [] wr).drew).alloc _)) (some ⟨wr.heap.size, 0, none⟩) 1 1 [.string { data := #[108, 105, 118, 101] }] (by rfl) rfl (fun h => by cases h) (by intro ad had; cases had; exact news_one wr _ _) (by intro u hu; simp at hu; subst hu; rfl) (by have := hl; unfold maxLen; omega) (by have := hl; omega) (by have := HSZ.out; simp; first | done | omega) ?_; intro v6 w6 hown6 hon6 hat6; have ho6 : Only [] w w6 := Only.trans ((HOF.out.drew).alloc _) hon6 (fun k hk => Or.inr (HQF.out.lt k (by simpa using hk)).1); have HF6 := Lib.hid (HFRE.out w6 v6 hown6 ho6); have HI6 := Lib.hid (HI.out.keep ho6); have HO6 := Lib.hid ho6; have e0 : w6.cell? ⟨B.h, 0, none⟩ = some (.pointer (some ⟨q, 0, none⟩)) := (by obtain ⟨_, _, hb6, _⟩ := HI6.out.ex; exact blk_cell hb6 0); have e1 : w6.cell? ⟨B.h, 1, none⟩ = some (.int .i64 H.use) := (by obtain ⟨_, _, hb6, _⟩ := HI6.out.ex; exact blk_cell hb6 1); clear hown6 hon6 hat6 ho6) | (go_simp; go_at_call 37; refine (HF6.out).mono ?_; rintro e w7 ⟨ho7, hst7, po, rfl, hjn7⟩; have HO7 := Lib.hid ho7; have HS7 := Lib.hid hst7; have HJ7 := Lib.hid hjn7; clear ho7 hst7 hjn7))
            all_goals go_wp2_with fail
            all_goals go_meet
            all_goals exact ⟨_, _, rfl, rfl, RCo.of HO6.out HO7.out HS7.out HJ7.out⟩
          case rest =>
            obtain ⟨po, c, rfl, rfl, HCO⟩ := hcut
            have hn7 : (freshS H.J.s (O * (H.J.s.n / 2)) (H.J.s.n / 2) (recsL G sn)).1.s.n = H.J.s.n := (fresh_ok HI.out.st.wf (half_has (by have := HO.out; omega) HI.out.n4) (recsL G sn)).2
            have HI7 := Lib.hid (HI.out.store HCO.out.1 HCO.out.2.1 hn7)
            obtain ⟨ws, wt, hb7, _⟩ := HI7.out.ex
            have d1c : wc.cell? ⟨B.h, 1, none⟩ = some (.int .i64 H.use) := blk_cell hb7 1
            have d2c : wc.cell? ⟨B.h, 2, none⟩ = some (.int .i64 H.age) := blk_cell hb7 2
            have d5c : wc.cell? ⟨B.h, 5, none⟩ = some (.pointer (some ⟨B.j, 0, none⟩)) := blk_cell hb7 5
            have d6c : wc.cell? ⟨B.h, 6, none⟩ = some (.bool H.down) := blk_cell hb7 6
            have f1c : wc.frozen? ⟨B.h, 1, none⟩ = false := blk_frozen hb7 1
            have f2c : wc.frozen? ⟨B.h, 2, none⟩ = false := blk_frozen hb7 2
            have f5c : wc.frozen? ⟨B.h, 5, none⟩ = false := blk_frozen hb7 5
            have f6c : wc.frozen? ⟨B.h, 6, none⟩ = false := blk_frozen hb7 6
            have HOE : Hid (O = 1 - H.use) := HO.out
            clear hb7 hn7 HROW HFRE HQF HI2 g0 g1 g2 g6 c0a c1a HC HO
            rw [← HOE.out] at HA
            by_cases hc0 : c = 0
            · subst hc0
              obtain ⟨j, rb, rfl, hj, hrb, hjn⟩ := HCO.out.2.2.2 rfl
              have HA0 : Hid (H.compact sn = ({ H with J := (freshS H.J.s (O * (H.J.s.n / 2)) (H.J.s.n / 2) (recsL G sn)).1, use := O, age := G, sn := sn, tl := [] }, 0)) := by show _ = _; rw [HA.out, if_pos HCO.out.2.2.1.symm]
              have HFN : Hid (∀ w9 v', Only [] (((wc.setCell ⟨B.h, 1, none⟩ (.int .i64 O)).setCell ⟨B.h, 5, none⟩ (.pointer (some ⟨j, 0, none⟩))).setCell ⟨B.h, 2, none⟩ (.int .i64 G)) w9 → w9.ownsRow wc.heap.size 9 1 v' sn.length (sn.map strV) → _) := fun w9 v' hW hown => rcompact_fin (w8 := w9) (va := v') HI.out HCO.out.1 HCO.out.2.1 HCO.out.2.2.1.symm HOE.out hj hrb hjn HG9.out hW hown
              have HSRC : Hid (∀ W, Only [] (((wc.setCell ⟨B.h, 1, none⟩ (.int .i64 O)).setCell ⟨B.h, 5, none⟩ (.pointer (some ⟨j, 0, none⟩))).setCell ⟨B.h, 2, none⟩ (.int .i64 G)) W → ∀ ad, a = some ad → ∀ j u, (sn.map strV)[j]? = some u → W.cell? (ad.add j) = some u) := fun W hW ad had jj u hu => by
                have ho : Only [q, g, B.h] w W := (((((HCO.out.1.mono (T := [q, g, B.h]) (by intro x h; simp at h ⊢; rcases h with h | h; exact Or.inl h; exact Or.inr (Or.inl h))).setCell (p := ⟨B.h, 1, none⟩) (Or.inl (by simp)) _).setCell (p := ⟨B.h, 5, none⟩) (Or.inl (by simp)) _).setCell (p := ⟨B.h, 2, none⟩) (Or.inl (by simp)) _).tr (hW.mono (by simp)))
                have hrc := row3_keep HC3.out ho
                rw [List.getElem?_map, Option.map_eq_some_iff] at hu
                obtain ⟨y, hy, rfl⟩ := hu
                obtain ⟨ad2, e, hq⟩ := hrc jj y hy
                rw [had] at e
                cases e
                exact hq
              have HBL : Hid (∀ W, Only [] (((wc.setCell ⟨B.h, 1, none⟩ (.int .i64 O)).setCell ⟨B.h, 5, none⟩ (.pointer (some ⟨j, 0, none⟩))).setCell ⟨B.h, 2, none⟩ (.int .i64 G)) W → ∃ x3, W.cell? ⟨B.h, 3, none⟩ = some x3) := fun W hW => by
                obtain ⟨ws, wt, hb7, _⟩ := HI7.out.ex
                exact ⟨_, blk_cell (hW.blk (blk_set (blk_set (blk_set hb7 1 (.int .i64 O)) 5 (.pointer (some ⟨j, 0, none⟩))) 2 (.int .i64 G)) (by simp)) 3⟩
              clear hj hrb hjn HA
              go_upto_region 19 with (fail)
              have HZ : Hid (a = none → M = 0 ∧ cap = 0) := fun e => by have := HZ0.out e; rw [HM.out]; exact this
              have HS3 : Hid (wc.heap.size ≤ (((wc.setCell ⟨B.h, 1, none⟩ (.int .i64 O)).setCell ⟨B.h, 5, none⟩ (.pointer (some ⟨j, 0, none⟩))).setCell ⟨B.h, 2, none⟩ (.int .i64 G)).heap.size) := by show _ ≤ _; simp
              generalize (((wc.setCell ⟨B.h, 1, none⟩ (.int .i64 O)).setCell ⟨B.h, 5, none⟩ (.pointer (some ⟨j, 0, none⟩))).setCell ⟨B.h, 2, none⟩ (.int .i64 G)) = W3 at *
              clear d1c d2c d5c d6c f1c f2c f5c f6c HI7 HCO
              go_wp2_with (at_builtin; refine wpList_append_ext _ rfl _ _ 37 rfl W3.heap.size 9 i0 (.string ByteArray.empty) 1 16 Tryz.underlying37 hi hz0 hz1 hz2 rfl (by decide) _ 0 [] rfl (own_empty W3 _ _ (Nat.le_refl _)) a M cap (sn.map strV) rfl ?e0 HZ.out ?e1 ?e2 ?e3 ?e4 ?e5 ?_)
              case e0 => first | exact HM.out.symm | (rw [List.length_map, Nat.mul_one]; exact HM.out.symm)
              case e1 => first | exact HSRC.out _ ((Only.refl [] W3).alloc _) | (intro ad had jj y hy; exact HSRC.out _ ((Only.refl [] W3).alloc _) ad had jj (strV y) (by rw [List.getElem?_map, hy]; rfl))
              case e2 => first | (intro u hu; rfl) | (intro u hu; rw [List.mem_map] at hu; obtain ⟨_, _, rfl⟩ := hu; rfl)
              case e3 => have := HLM.out; unfold maxLen; omega
              case e4 => have := HLM.out; omega
              try (case e5 => simp)
              intro v9 w9 hown9 hon9 hat9
              have hO9 : Only [] W3 w9 := Only.trans ((Only.refl [] W3).alloc _) hon9 (fun k hm => Or.inr (by have hm2 := own_one hm; omega))
              obtain ⟨xa, xb, xc, rfl⟩ := own_slice hown9
              obtain ⟨⟨y3, y4, e3, e4⟩, k3, k4, hpost⟩ := HFN.out w9 _ hO9 (own_mono (by rw [← HM.out]; exact hown9) HS3.out)
              have HPO := Lib.hid hpost
              clear hown9 hon9 hat9 hO9 hpost HFN HSRC HBL
              go_wp2_with fail
              go_ret
              rw [HA0.out]
              exact HPO.out
            · have hcb : (c == 0) = false := beq_eq_false_iff_ne.mpr hc0
              have HA0 : Hid (H.compact sn = ({ H with J := { H.J with s := (freshS H.J.s (O * (H.J.s.n / 2)) (H.J.s.n / 2) (recsL G sn)).1.s }, down := c == 16 }, c)) := by show _ = _; rw [HA.out, if_neg (by rw [← HCO.out.2.2.1]; exact hc0), ← HCO.out.2.2.1]
              have HI8 := Lib.hid (HI7.out.setDown (c == 16))
              have HO8 : Hid (Only ([q, g] ++ B.own) w (wc.setCell ⟨B.h, 6, none⟩ (.bool (c == 16)))) := (HCO.out.1.mono (fun x hx => List.mem_append.2 (Or.inl hx))).setCell (p := ⟨B.h, 6, none⟩) (Or.inl (by simp [HB.own])) _
              clear HA
              go_wp2_with fail
              go_ret
              rw [HA0.out]
              exact ⟨rfl, HO8.out, B, rfl, fun x hx => Or.inl hx, HI8.out⟩
end Go.Proofs.YtngcdkbnljoodaaGreatDoor

