/- Lemmas and contracts for the functions of one layer of the program, used by the law's proof. No conditions beyond those typed. -/
import Derived.Test.YtaempeleddamlaaLexE
import Derived.Test.YtaempeleddamlaaBld
import Derived.Test.YtaempeleddamlaaShelf
namespace Go.Proofs.Ytaempeleddamlaa
set_option linter.unusedVariables false
set_option linter.unusedSimpArgs false
open Go.RowKit Go.Proofs.YtaempeleddamlaaW.PrintWords Go.Proofs.YtaempeleddamlaaW.PrintLast Go.Proofs.YtaempeleddamlaaW.PrintMore Go.Proofs.Ytaempeleddamlaa.P

def semi (s : ByteArray) : Bool := s.toList == [59]
/-- Tokens' text, at the begin of a line or not. -/
def joinL : Bool → List S35 → List UInt8
  | _, [] => []
  | b, t :: l => (if !b && !semi t.f1 then [32] else []) ++ t.f1.data.toList ++ (if semi t.f1 then 10 :: joinL true l else joinL false l)
theorem strCells_bytes (s : ByteArray) : Lib.strCells s = Lib.byteCells s.data.toList := by
  simp [Lib.strCells, Lib.byteCells]
theorem bld_alloc {T e B b : Nat} {bs : List Value} {w : World} (h : Lib.IsBuilder T e B b bs w) (o : Obj) : Lib.IsBuilder T e B b bs (w.alloc o) := by
  have key : ∀ p, Lib.BuilderAt T e B b p bs w → Lib.BuilderAt T e B b p bs (w.alloc o) := by
    rintro p ⟨hB, v, hb, hown, hne⟩
    exact ⟨hB, v, blk_alloc hb o, hown.alloc _, hne⟩
  exact h.imp (key _) (key _)
theorem ws_step {B b : Nat} {acc : List UInt8} {s : ByteArray} {w : World} (h : Lib.IsBuilder 49 5 B b (Lib.byteCells acc) w) (hlen : acc.length + s.size ≤ 140737488355328) (hBw : B ≤ w.heap.size) :
    Calls Try.prog 22 #[.pointer (some ⟨b, 0, none⟩), .string s] w fun e w' => e = .returned (.tuple #[.int .i64 s.size, .nilIface]) ∧ Lib.IsBuilder 49 5 B b (Lib.byteCells (acc ++ s.data.toList)) w' ∧ Below B w w' ∧ KeepTy w w' := by
  refine (bld_WriteString B b _ s w h (by rw [Lib.byteCells_length]; exact hlen) hBw).mono ?_
  rintro e w' ⟨he, h1, h2, h3⟩
  refine ⟨he, .inr ?_, h2, h3⟩
  rw [show Lib.byteCells (acc ++ s.data.toList) = Lib.byteCells acc ++ Lib.strCells s by simp [Lib.byteCells, Lib.strCells]]
  exact h1
theorem box_keep {w w1 : World} {cs : Array Value} (h : KeepTy (w.alloc (.cells cs 35)) w1) (j : Nat) : w1.cell? ⟨w.heap.size, j, none⟩ = cs[j]? :=
  blk_cell (h _ _ (blk_new w _) (fun _ _ h => by cases h) (fun _ _ h => by cases h)) j
theorem drop_rd (l : List S35) (k : Nat) (h : k < l.length) : l.drop k = rd_T35 l k :: l.drop (k + 1) := by
  rw [List.drop_eq_getElem_cons h]
  simp [rd_T35, List.getD_eq_getElem?_getD, List.getElem?_eq_getElem h]

set_option maxHeartbeats 1000000 in
theorem Join_any (A : Option Addr) (c : Nat) (l : List S35) (w : World) (hC : Kd.C k35 w A l.length l) (hc : l.length ≤ c) (hj : (joinL true l).length ≤ 140737488355328) :
    Calls Try.prog 15 #[.slice A l.length c] w fun e w' => e = .returned (.string ⟨(joinL true l).toArray⟩) ∧ Below w.heap.size w w' := by
  have hu := Try.underlying35
  have hu2 := Try.underlying49
  have HC := Aside0.mk hC
  have hmax := Kd.C_max hC
  clear hC
  go_enter Try.func15, Try.ntmps15
  go_wp2
  have hb0 := Lib.hid (Lib.fresh_isBuilder 49 5 w)
  have hB0 := Aside0.mk (below_alloc (Below.refl w.heap.size w) (.cells #[.pointer none, .slice none 0 0] 49))
  generalize hwB : w.alloc (.cells #[.pointer none, .slice none 0 0] 49) = wB at *
  clear hwB
  go_loopw [4, 9] (fun b i w' => ∃ (bg : Bool) (k : Nat) (acc : List UInt8), b = .bool bg ∧ i = .int .i64 k ∧ k ≤ l.length ∧ Aside0 (joinL true l = acc ++ joinL bg (l.drop k)) ∧ Aside0 (Lib.IsBuilder 49 5 w.heap.size w.heap.size (Lib.byteCells acc) w') ∧ Aside0 (Below w.heap.size w w')) (fun _ i _ => l.length - (intOf i).toNat)
  case atStart => exact ⟨true, 0, [], rfl, rfl, by omega, ⟨by simp⟩, ⟨hb0.out⟩, ⟨hB0.out⟩⟩
  case round =>
    clear hb0 hB0
    obtain ⟨bg, k, acc, rfl, rfl, hk, HJ, HI, HB⟩ := hrel
    by_cases hlt : k < l.length
    · obtain ⟨ad, e, hx0, hx1, hx2, hx3⟩ := at_T35 HC.out k (by omega) (by omega)
      cases e
      replace hx0 := pw_cell_below HB.out hx0
      replace hx1 := pw_cell_below HB.out hx1
      replace hx2 := pw_cell_below HB.out hx2
      replace hx3 := pw_cell_below HB.out hx3
      rw [Int.toNat_natCast] at hx0 hx1 hx2 hx3
      have HD := Lib.hid (drop_rd l k hlt)
      have HL1 : acc.length + (rd_T35 l k).f1.size ≤ 140737488355328 := by
        have h := congrArg List.length HJ.out
        rw [HD.out] at h
        have h2 := data_length (rd_T35 l k).f1
        cases h3 : semi (rd_T35 l k).f1 <;> cases bg <;> simp [joinL, h3] at h <;> omega
      have HL2 : (semi (rd_T35 l k).f1 = true ∨ bg = false) → acc.length + (rd_T35 l k).f1.size + 1 ≤ 140737488355328 := by
        have h := congrArg List.length HJ.out
        rw [HD.out] at h
        have h2 := data_length (rd_T35 l k).f1
        cases h3 : semi (rd_T35 l k).f1 <;> cases bg <;> simp [joinL, h3] at h <;> simp <;> omega
      obtain ⟨⟨t0, t1, t2, t3⟩, ht⟩ : ∃ t, t = rd_T35 l k := ⟨_, rfl⟩
      rw [← ht] at hx0 hx1 hx2 hx3 HD HL1 HL2
      clear ht
      simp only [] at hx0 hx1 hx2 hx3 HL1 HL2
      have HIW := Aside0.mk (bld_alloc HI.out (.cells #[.int .i64 t0, .string t1, .int .i64 t2, .int .i64 t3] 35))
      have HBW := Aside0.mk (below_alloc HB.out (.cells #[.int .i64 t0, .string t1, .int .i64 t2, .int .i64 t3] 35))
      have hs0 : w.heap.size ≤ wr.heap.size := HB.out.size
      have hsW : w.heap.size ≤ (wr.alloc (.cells #[.int .i64 t0, .string t1, .int .i64 t2, .int .i64 t3] 35)).heap.size := HBW.out.size
      have HS := Lib.hid hsW
      clear hsW
      have hlt2 := HL2
      have HL2' := Lib.hid HL2
      clear hlt2 HL2
      have hsm0 : semi t1 = (t1.toList == [59]) := rfl
      have HSM := Lib.hid hsm0
      clear hsm0
      cases bg <;> cases hsm : (t1.toList == [59])
      all_goals have hlen2 := HL2'.out
      all_goals rw [HSM.out, hsm] at hlen2
      all_goals simp at hlen2
      · -- begun false, a sign false
        go_wp2_with fail
        refine (ws_step (s := ⟨#[32]⟩) (acc := acc) HIW.out (by have e2 : (⟨#[10]⟩ : ByteArray).size = 1 := rfl; have e3 : (⟨#[32]⟩ : ByteArray).size = 1 := rfl; (try simp only [List.length_append, data_length, List.length_cons, List.length_nil]); omega) HBW.out.size).mono ?_
        rintro e w1 ⟨rfl, hi1, hb1, hk1⟩
        have HI1 := Aside0.mk hi1
        have HB1 := Aside0.mk (HBW.out.trans hb1)
        have HK1 := Aside0.mk (hk1)
        have hs1 : w.heap.size ≤ w1.heap.size := HB1.out.size
        have hx1 := box_keep HK1.out 1
        clear hi1 hb1 hk1
        go_wp2_with fail
        refine (ws_step (s := t1) (acc := (acc ++ [32])) HI1.out (by have e2 : (⟨#[10]⟩ : ByteArray).size = 1 := rfl; have e3 : (⟨#[32]⟩ : ByteArray).size = 1 := rfl; (try simp only [List.length_append, data_length, List.length_cons, List.length_nil]); omega) HB1.out.size).mono ?_
        rintro e w2 ⟨rfl, hi2, hb2, hk2⟩
        have HI2 := Aside0.mk hi2
        have HB2 := Aside0.mk (HB1.out.trans hb2)
        have HK2 := Aside0.mk (HK1.out.trans hk2)
        have hs2 : w.heap.size ≤ w2.heap.size := HB2.out.size
        have hx2 := box_keep HK2.out 1
        clear hi2 hb2 hk2
        have HIL := HI2
        have HBL := HB2
        go_wp2
        go_roundw
        case rel => exact ⟨false, k + 1, ((acc ++ [32]) ++ t1.data.toList), by first | rfl | (rw [hsm]; rfl), by go_num, by omega, ⟨by rw [HJ.out, HD.out]; simp [joinL, semi, hsm]⟩, ⟨HIL.out⟩, HBL⟩
        case measure => simp [intOf]; omega
      · -- begun false, a sign true
        go_wp2_with fail
        refine (ws_step (s := t1) (acc := acc) HIW.out (by have e2 : (⟨#[10]⟩ : ByteArray).size = 1 := rfl; have e3 : (⟨#[32]⟩ : ByteArray).size = 1 := rfl; (try simp only [List.length_append, data_length, List.length_cons, List.length_nil]); omega) HBW.out.size).mono ?_
        rintro e w1 ⟨rfl, hi1, hb1, hk1⟩
        have HI1 := Aside0.mk hi1
        have HB1 := Aside0.mk (HBW.out.trans hb1)
        have HK1 := Aside0.mk (hk1)
        have hs1 : w.heap.size ≤ w1.heap.size := HB1.out.size
        have hx1 := box_keep HK1.out 1
        clear hi1 hb1 hk1
        go_wp2_with fail
        refine (ws_step (s := ⟨#[10]⟩) (acc := (acc ++ t1.data.toList)) HI1.out (by have e2 : (⟨#[10]⟩ : ByteArray).size = 1 := rfl; have e3 : (⟨#[32]⟩ : ByteArray).size = 1 := rfl; (try simp only [List.length_append, data_length, List.length_cons, List.length_nil]); omega) HB1.out.size).mono ?_
        rintro e w2 ⟨rfl, hi2, hb2, hk2⟩
        have HI2 := Aside0.mk hi2
        have HB2 := Aside0.mk (HB1.out.trans hb2)
        have HK2 := Aside0.mk (HK1.out.trans hk2)
        have hs2 : w.heap.size ≤ w2.heap.size := HB2.out.size
        have hx2 := box_keep HK2.out 1
        clear hi2 hb2 hk2
        have HIL := HI2
        have HBL := HB2
        go_wp2
        go_roundw
        case rel => exact ⟨true, k + 1, ((acc ++ t1.data.toList) ++ [10]), by first | rfl | (rw [hsm]; rfl), by go_num, by omega, ⟨by rw [HJ.out, HD.out]; simp [joinL, semi, hsm]⟩, ⟨HIL.out⟩, HBL⟩
        case measure => simp [intOf]; omega
      · -- begun true, a sign false
        go_wp2_with fail
        refine (ws_step (s := t1) (acc := acc) HIW.out (by have e2 : (⟨#[10]⟩ : ByteArray).size = 1 := rfl; have e3 : (⟨#[32]⟩ : ByteArray).size = 1 := rfl; (try simp only [List.length_append, data_length, List.length_cons, List.length_nil]); omega) HBW.out.size).mono ?_
        rintro e w1 ⟨rfl, hi1, hb1, hk1⟩
        have HI1 := Aside0.mk hi1
        have HB1 := Aside0.mk (HBW.out.trans hb1)
        have HK1 := Aside0.mk (hk1)
        have hs1 : w.heap.size ≤ w1.heap.size := HB1.out.size
        have hx1 := box_keep HK1.out 1
        clear hi1 hb1 hk1
        have HIL := HI1
        have HBL := HB1
        go_wp2
        go_roundw
        case rel => exact ⟨false, k + 1, (acc ++ t1.data.toList), by first | rfl | (rw [hsm]; rfl), by go_num, by omega, ⟨by rw [HJ.out, HD.out]; simp [joinL, semi, hsm]⟩, ⟨HIL.out⟩, HBL⟩
        case measure => simp [intOf]; omega
      · -- begun true, a sign true
        go_wp2_with fail
        refine (ws_step (s := t1) (acc := acc) HIW.out (by have e2 : (⟨#[10]⟩ : ByteArray).size = 1 := rfl; have e3 : (⟨#[32]⟩ : ByteArray).size = 1 := rfl; (try simp only [List.length_append, data_length, List.length_cons, List.length_nil]); omega) HBW.out.size).mono ?_
        rintro e w1 ⟨rfl, hi1, hb1, hk1⟩
        have HI1 := Aside0.mk hi1
        have HB1 := Aside0.mk (HBW.out.trans hb1)
        have HK1 := Aside0.mk (hk1)
        have hs1 : w.heap.size ≤ w1.heap.size := HB1.out.size
        have hx1 := box_keep HK1.out 1
        clear hi1 hb1 hk1
        go_wp2_with fail
        refine (ws_step (s := ⟨#[10]⟩) (acc := (acc ++ t1.data.toList)) HI1.out (by have e2 : (⟨#[10]⟩ : ByteArray).size = 1 := rfl; have e3 : (⟨#[32]⟩ : ByteArray).size = 1 := rfl; (try simp only [List.length_append, data_length, List.length_cons, List.length_nil]); omega) HB1.out.size).mono ?_
        rintro e w2 ⟨rfl, hi2, hb2, hk2⟩
        have HI2 := Aside0.mk hi2
        have HB2 := Aside0.mk (HB1.out.trans hb2)
        have HK2 := Aside0.mk (HK1.out.trans hk2)
        have hs2 : w.heap.size ≤ w2.heap.size := HB2.out.size
        have hx2 := box_keep HK2.out 1
        clear hi2 hb2 hk2
        have HIL := HI2
        have HBL := HB2
        go_wp2
        go_roundw
        case rel => exact ⟨true, k + 1, ((acc ++ t1.data.toList) ++ [10]), by first | rfl | (rw [hsm]; rfl), by go_num, by omega, ⟨by rw [HJ.out, HD.out]; simp [joinL, semi, hsm]⟩, ⟨HIL.out⟩, HBL⟩
        case measure => simp [intOf]; omega
    · have HE : Hid (joinL true l = acc) := by
        show _ = _
        rw [HJ.out, List.drop_eq_nil_of_le (by omega)]
        simp [joinL]
      have hb1 := HB.out.size
      go_wp2_with (go_at_call 23; refine (Try.Builder_String_any w.heap.size w.heap.size acc _ HI.out hb1).mono ?_; rintro e w1 ⟨rfl, hb2⟩)
      go_ret
      exact ⟨by rw [HE.out]; rfl, HB.out.trans hb2⟩
end Go.Proofs.Ytaempeleddamlaa
