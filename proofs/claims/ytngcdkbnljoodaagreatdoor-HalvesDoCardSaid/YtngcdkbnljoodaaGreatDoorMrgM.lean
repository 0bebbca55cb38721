/- The reference's log: sums, frames, scans walk. No conditions beyond those typed. The reference's store walks: a row of texts of 32 bytes each, the fuse. No conditions beyond those typed. -/
import Derived.Test.YtngcdkbnljoodaaGreatDoorMrgB
import Derived.StillTailTactics
namespace Go.Proofs.YtngcdkbnljoodaaGreatDoor
set_option linter.unusedVariables false
set_option linter.unusedSimpArgs false
open Go.RowKit Go.Proofs.YtngcdkbnljoodaaGreatDoorW.PrintWords

theorem crcBit_xor (v : Nat) (hv : v < 4294967296) (h : v % 2 = 1) : bits .xor .u32 ((v / 2 : Nat) : Int) 3988292384 = ((crcBit v : Nat) : Int) := by
  unfold crcBit
  rw [h, if_pos rfl]
  exact u32_xor_nat (v / 2) 3988292384 (by omega) (by omega)
theorem crcBit_half (v : Nat) (h : v % 2 = 0) : crcBit v = v / 2 := by
  unfold crcBit
  rw [h, if_neg (by decide), Nat.xor_zero]
set_option maxHeartbeats 2000000 in
set_option maxRecDepth 100000 in
theorem RSum_of (s : ByteArray) (hs : s.size ≤ 140737488355328) (w : World) :
    Calls Tryz.prog 82 #[.string s] w fun e w' => e = .returned (.int .u32 (crc s.data.toList : Nat)) ∧ w = w' := by
  go_enter Tryz.func82, Tryz.ntmps82
  go_wp2
  go_loopw [3, 4] (fun n i wr => ∃ k : Nat, k ≤ s.size ∧ i = .int .i64 (k : Int) ∧ n = .int .u32 (crcFold (s.data.toList.take k) : Nat) ∧ wr = w) (fun _ i _ => s.size - (intOf i).toNat)
  case atStart => exact ⟨0, Nat.zero_le _, rfl, rfl, rfl⟩
  case round =>
    obtain ⟨k, hk, rfl, rfl, rfl⟩ := hrel
    by_cases hks : k < s.size
    · have hfs := fold_step s.data.toList k hks
      have hlt := crcFold_lt (s.data.toList.take k)
      have e0 : s[k]'hks = s.data.toList.getD k 0 := byte_get s k hks
      generalize s.data.toList.getD k 0 = c at *
      generalize crcFold (s.data.toList.take k) = n at *
      have hcb := c.toNat_lt
      obtain ⟨m, hm⟩ : ∃ m, m = n ^^^ c.toNat := ⟨_, rfl⟩
      have hm32 : m < 4294967296 := by rw [hm]; exact Nat.xor_lt_two_pow (n := 32) hlt (by omega)
      have hx : bits .xor .u32 (n : Int) (c.toNat : Int) = (m : Int) := by rw [hm]; exact u32_xor_nat n c.toNat hlt (by omega)
      have HM : Hid (crcFold (s.data.toList.take (k + 1)) = crcIt 8 m) := by show _ = _; rw [hfs, hm]; rfl
      have hc0 : (0 : Int) ≤ (k : Int) := by omega
      have hc1 : ((k : Int) < (s.size : Int)) := by omega
      have hwr : IntKind.i64.wrap ((k : Int) + 1) = (k : Int) + 1 := IntWalk.i64_in _ (by omega)
      clear hm hfs
      go_wp2
      go_loopw [3, 5] (fun v j wq => ∃ q : Nat, q ≤ 8 ∧ j = .int .i64 (q : Int) ∧ v = .int .u32 (crcIt q m : Nat) ∧ wq = wr) (fun _ j _ => 8 - (intOf j).toNat)
      case atStart => exact ⟨0, by omega, rfl, rfl, rfl⟩
      case round =>
        obtain ⟨q, hq, rfl, rfl, rfl⟩ := hrel
        by_cases hq8 : q < 8
        · have hv := crcIt_lt q hm32
          have hsu := crcIt_succ q m
          generalize crcIt q m = v at *
          have hd0 : (q : Int) < 8 := by omega
          have hwq : IntKind.i64.wrap ((q : Int) + 1) = (q : Int) + 1 := IntWalk.i64_in _ (by omega)
          have hdiv : IntKind.u32.wrap ((v : Int).tdiv 2) = ((v / 2 : Nat) : Int) := by
            have h1 : (v : Int).tdiv 2 = ((v / 2 : Nat) : Int) := rfl
            have h2 : v < 4294967296 := hv
            rw [h1, IntKind.wrap_u32]
            omega
          have HS := Lib.hid hsu
          have hv2 : v < 4294967296 := hv
          clear hsu hx hv
          rcases Nat.mod_two_eq_zero_or_one v with h2 | h2
          · have hh := crcBit_half v h2
            have hmod : (v : Int) % 2 = 0 := by omega
            have HH := Lib.hid hh
            clear hh h2
            go_wp2
            go_roundw
            case rel => exact ⟨q + 1, by omega, rfl, by rw [HS.out, HH.out, Int.natCast_ediv]; rfl, trivial⟩
            case measure => simp [intOf]; omega
          · have hh := crcBit_xor v hv2 h2
            have hmod : (v : Int) % 2 = 1 := by omega
            clear h2
            go_wp2
            go_roundw
            case rel => exact ⟨q + 1, by omega, rfl, by rw [HS.out, ← hh, Int.natCast_ediv]; rfl, trivial⟩
            case measure => simp [intOf]; omega
        · obtain rfl : q = 8 := by omega
          go_wp2
          go_roundw
          case rel => exact ⟨k + 1, by omega, rfl, by rw [HM.out], trivial⟩
          case measure => simp [intOf]; omega
    · obtain rfl : k = s.size := by omega
      have hall : s.data.toList.take s.size = s.data.toList := List.take_of_length_le (Nat.le_refl _)
      rw [hall]
      have hlt := crcFold_lt s.data.toList
      have HE : Hid (crc s.data.toList = 4294967295 - crcFold s.data.toList) := rfl
      generalize crcFold s.data.toList = n at *
      have hsub : (4294967295 - (n : Int)) = ((4294967295 - n : Nat) : Int) := by have : n < 4294967296 := hlt; omega
      have HSB := Lib.hid hsub
      clear hsub
      have hlt2 : n < 4294967296 := hlt
      clear hall hlt
      go_wp2
      go_ret
      exact ⟨by rw [HE.out, ← HSB.out]; rfl, rfl⟩
theorem head_cells (r : Bs) (h : r.length ≤ 400) : (u8v (headL r)).toArray = #[.int .u8 1, .int .u8 ((r.length : Int) / 256), .int .u8 ((r.length : Int) % 256), .int .u8 ((crc r : Int) / 16777216), .int .u8 ((crc r : Int) / 65536 % 256), .int .u8 ((crc r : Int) / 256 % 256), .int .u8 ((crc r : Int) % 256)] := by
  have hc : crc r < 4294967296 := crc_lt r
  unfold headL u8v
  generalize crc r = C at *
  simp [b8_toNat]
  omega
set_option maxHeartbeats 2000000 in
set_option maxRecDepth 100000 in
theorem RFrame_ok (s : ByteArray) (h1 : 1 ≤ s.size) (h2 : s.size ≤ 400) (w : World) :
    Calls Tryz.prog 66 #[.string s] w fun e w' => e = .returned (.tuple #[.string (mkS (frameL s.data.toList)), .int .i64 0]) ∧ Only [] w w' := by
  have HSM := Lib.hid (RSum_of s (by omega))
  have hc : crc s.data.toList < 4294967296 := crc_lt s.data.toList
  have hsl : s.data.toList.length = s.size := rfl
  have hcv := conv_string (l := headL s.data.toList) (blk_new w (.cells (u8v (headL s.data.toList)).toArray 5)) 7 7 rfl
  rw [head_cells _ (by omega), hsl] at hcv
  obtain ⟨A, hA⟩ : ∃ A, A = mkS (headL s.data.toList) := ⟨_, rfl⟩
  obtain ⟨O, hO⟩ : ∃ O, O = mkS [1] := ⟨_, rfl⟩
  have HF : Hid (A ++ s ++ O = mkS (frameL s.data.toList)) := by
    show _ = _
    rw [hA, hO]
    conv => lhs; rw [← mkS_list s]
    rw [mkS_append, mkS_append, list_mkS]
    rfl
  have hAs : A.size = 7 := by rw [hA]; rfl
  have hOs : O.size = 1 := by rw [hO]; rfl
  rw [← hA] at hcv
  have hO2 : ({ data := #[1] } : ByteArray) = O := by rw [hO]; rfl
  clear hsl hA hO
  generalize crc s.data.toList = C at *
  have g1 : ¬ ((s.size : Int) < 1) := by omega
  have g2 : ¬ ((400 : Int) < (s.size : Int)) := by omega
  go_enter Tryz.func66, Tryz.ntmps66
  go_wp2_with fail
  refine (HSM.out _).mono ?_
  rintro e _ ⟨rfl, rfl⟩
  go_wp2_with fail
  go_ret2
  exact ⟨by rw [HF.out]; rfl, (Only.refl _ _).alloc _⟩
theorem RFrame_no (s : ByteArray) (h : s.size = 0 ∨ 400 < s.size) (w : World) :
    Calls Tryz.prog 66 #[.string s] w fun e w' => e = .returned (.tuple #[.string (mkS []), .int .i64 3]) ∧ w = w' := by
  rcases h with h | h
  · have g1 : (s.size : Int) < 1 := by omega
    go_enter Tryz.func66, Tryz.ntmps66
    go_wp2
    go_ret2
    exact ⟨rfl, rfl⟩
  · have g1 : ¬ (s.size : Int) < 1 := by omega
    have g2 : (400 : Int) < (s.size : Int) := by omega
    go_enter Tryz.func66, Tryz.ntmps66
    go_wp2
    go_ret2
    exact ⟨rfl, rfl⟩
/-- Within the reference's scan. -/
def RScanIn (s : ByteArray) (w wr : World) (v : Value) (l : List Bs) (F : Nat) : Prop :=
  F = (frames l).length ∧ s.data.toList = frames l ++ s.data.toList.drop F ∧ (∀ r ∈ l, okR r) ∧ wr.ownsRow w.heap.size 9 1 v l.length (l.map strV) ∧ Only [] w wr ∧ v ≠ .slice none 0 0
def RScanPost (s : ByteArray) (w : World) (e : Ending) (w' : World) : Prop :=
  ∃ v l t, e = .returned (.tuple #[v, .int .i64 ((frames l).length : Int)]) ∧ IsScan s.data.toList l t ∧ w'.ownsRow w.heap.size 9 1 v l.length (l.map strV) ∧ Only [] w w' ∧ v ≠ .slice none 0 0
theorem RScanIn.out {s : ByteArray} {w wr : World} {v : Value} {l : List Bs} {F : Nat} (h : RScanIn s w wr v l F) (h0 : oneL (s.data.toList.drop F) = none) : RScanPost s w (.returned (.tuple #[v, .int .i64 (F : Int)])) wr := by
  obtain ⟨rfl, h1, h2, h3, h4, h5⟩ := h
  exact ⟨v, l, _, rfl, ⟨h1, h2, h0⟩, h3, h4, h5⟩
theorem RScanIn.keep {s : ByteArray} {w wr w' : World} {v : Value} {l : List Bs} {F : Nat} (h : RScanIn s w wr v l F) (ho : Only [] wr w') : RScanIn s w w' v l F := by
  obtain ⟨h0, h1, h2, h3, h4, h5⟩ := h
  exact ⟨h0, h1, h2, own_keep h3 ho (by simp), h4.tr ho, h5⟩
theorem RScanIn.step {s : ByteArray} {w wr w' : World} {v v' : Value} {l : List Bs} {F : Nat} {r : Bs} {o : Obj} (h : RScanIn s w wr v l F) (h0 : oneL (s.data.toList.drop F) = some r)
    (hown : w'.ownsRow w.heap.size 9 1 v' (l.length + 1) (l.map strV ++ [strV r])) (hg : (wr.alloc o).grownBy w' v.ownBlock) (hnil : v' ≠ .slice none 0 0) : RScanIn s w w' v' (l ++ [r]) (F + (r.length + 8)) := by
  obtain ⟨hF, h1, h2, h3, h4, h5⟩ := h
  obtain ⟨q1, q2⟩ := IsScan.step h1 h2 h0
  refine ⟨by rw [frames_snoc, List.length_append, frameL_length, hF], by rw [List.drop_drop] at q1; exact q1, q2, by rw [List.length_append, List.map_append]; exact hown, ?_, hnil⟩
  have hO : Only v.ownBlock.toList wr w' := ((Only.refl _ wr).alloc o).grown hg (fun k hk => Or.inl (by rw [hk]; simp))
  exact h4.trans hO (fun x hx => Or.inr (h3.lt x (by simpa using hx)).1)
theorem lenL_drop (L : Bs) (F : Nat) : lenL (L.drop F) = 256 * (L.getD (F + 1) 0).toNat + (L.getD (F + 2) 0).toNat := by
  unfold lenL
  simp [List.getD_eq_getElem?_getD, List.getElem?_drop]
set_option maxHeartbeats 4000000 in
set_option maxRecDepth 100000 in
theorem RScan_of (s : ByteArray) (hs : s.size ≤ 100000) (w : World) : Calls Tryz.prog 79 #[.string s] w (RScanPost s w) := by
  have hmix : Tryz.prog.follows .mixedOrders = true := by kernel_rfl
  go_enter Tryz.func79, Tryz.ntmps79
  go_wp2
  go_loopw [4, 5] (fun o i wr => ∃ (v : Value) (l : List Bs) (F : Nat), o = v ∧ i = .int .i64 (F : Int) ∧ F ≤ s.size ∧ Hid (RScanIn s w wr v l F)) (fun _ i _ => s.size - (intOf i).toNat)
  case atStart => exact ⟨_, [], 0, rfl, rfl, Nat.zero_le _, ⟨rfl, rfl, by simp, own_empty w _ _ (Nat.le_refl _), (Only.refl _ _).alloc _, by intro h; cases h⟩⟩
  case round =>
    obtain ⟨v, l, F, rfl, rfl, hF, HI⟩ := hrel
    have hLs : s.data.toList.length = s.size := rfl
    obtain ⟨F8, hF8⟩ : ∃ F8, F8 = F + 8 := ⟨_, rfl⟩
    have w8 : IntKind.i64.wrap ((F : Int) + 8) = (F8 : Int) := by rw [IntWalk.i64_in _ (by omega)]; omega
    by_cases h9 : F + 8 < s.size
    · obtain ⟨F1, hF1⟩ : ∃ F1, F1 = F + 1 := ⟨_, rfl⟩
      obtain ⟨F2, hF2⟩ : ∃ F2, F2 = F + 2 := ⟨_, rfl⟩
      obtain ⟨F7, hF7⟩ : ∃ F7, F7 = F + 7 := ⟨_, rfl⟩
      have k1 : F1 < s.size := by omega
      have k2 : F2 < s.size := by omega
      have e1 : s[F1]'k1 = s.data.toList.getD F1 0 := byte_get s F1 k1
      have e2 : s[F2]'k2 = s.data.toList.getD F2 0 := byte_get s F2 k2
      have hlen := lenL_drop s.data.toList F
      rw [← hF1, ← hF2] at hlen
      generalize s.data.toList.getD F1 0 = c1 at *
      generalize s.data.toList.getD F2 0 = c2 at *
      have hc1 := c1.toNat_lt
      have hc2 := c2.toNat_lt
      obtain ⟨m, hm⟩ : ∃ m, m = 256 * c1.toNat := ⟨_, rfl⟩
      obtain ⟨n, hn⟩ : ∃ n, n = m + c2.toNat := ⟨_, rfl⟩
      obtain ⟨T, hT⟩ : ∃ T, T = s.data.toList.drop F := ⟨_, rfl⟩
      rw [← hT] at hlen
      have hTl : T.length = s.size - F := by rw [hT, List.length_drop]; omega
      have hln : lenL T = n := by omega
      have w1 : IntKind.i64.wrap ((F : Int) + 1) = (F1 : Int) := by rw [IntWalk.i64_in _ (by omega)]; omega
      have w2 : IntKind.i64.wrap ((F : Int) + 2) = (F2 : Int) := by rw [IntWalk.i64_in _ (by omega)]; omega
      have w7 : IntKind.i64.wrap ((F : Int) + 7) = (F7 : Int) := by rw [IntWalk.i64_in _ (by omega)]; omega
      have wm : IntKind.i64.wrap (256 * (c1.toNat : Int)) = (m : Int) := by rw [IntWalk.i64_in _ (by omega)]; omega
      have wn : IntKind.i64.wrap ((m : Int) + (c2.toNat : Int)) = (n : Int) := by rw [IntWalk.i64_in _ (by omega)]; omega
      have b1 : (F1 : Int) < (s.size : Int) := by omega
      have b2 : (F2 : Int) < (s.size : Int) := by omega
      have b10 : (0 : Int) ≤ (F1 : Int) := by omega
      have b20 : (0 : Int) ≤ (F2 : Int) := by omega
      have h8 : (F8 : Int) < (s.size : Int) := by omega
      have HT := Lib.hid hT
      have HLN := Lib.hid hln
      have HTL := Lib.hid hTl
      clear hT hln hTl hlen
      by_cases hbad : n < 1 ∨ 400 < n ∨ s.size < F + 8 + n
      · have HO : Hid (oneL (s.data.toList.drop F) = none) := by
          show _ = _
          rw [← HT.out]
          unfold oneL
          split
          · rfl
          · rw [if_neg]
            rintro ⟨q1, q2, q3, _⟩
            have := HLN.out
            have := HTL.out
            omega
        have HB := Lib.hid hbad
        have HFS : Hid (F8 = F + 8) := hF8
        have hn6 : n ≤ 66000 := by omega
        by_cases q1 : n < 1
        · have g1 : (n : Int) < 1 := by omega
          clear hF8 hF1 hF2 hF7 hm hn hLs hbad q1
          go_wp2
          go_quiet (fail)
          go_wp2
          go_ret2
          exact (RScanIn.keep HI.out ((Only.refl [] _).drewN _)).out HO.out
        · by_cases q2 : 400 < n
          · have g1 : ¬ (n : Int) < 1 := by omega
            have g2 : (400 : Int) < (n : Int) := by omega
            clear hF8 hF1 hF2 hF7 hm hn hLs hbad q1 q2
            go_wp2
            go_quiet (fail)
            go_wp2
            go_ret2
            exact (RScanIn.keep HI.out ((Only.refl [] _).drewN _)).out HO.out
          · obtain ⟨E, hE⟩ : ∃ E, E = F8 + n := ⟨_, rfl⟩
            have wE : IntKind.i64.wrap ((F8 : Int) + (n : Int)) = (E : Int) := by rw [IntWalk.i64_in _ (by omega)]; omega
            have g1 : ¬ (n : Int) < 1 := by omega
            have g2 : ¬ (400 : Int) < (n : Int) := by omega
            have g3 : (s.size : Int) < (E : Int) := by omega
            clear hF8 hF1 hF2 hF7 hm hn hLs hbad q1 q2 hE
            go_wp2
            go_quiet (fail)
            go_wp2
            go_ret2
            exact (RScanIn.keep HI.out ((Only.refl [] _).drewN _)).out HO.out
      · obtain ⟨E, hE⟩ : ∃ E, E = F8 + n := ⟨_, rfl⟩
        obtain ⟨E7, hE7⟩ : ∃ E7, E7 = F7 + n := ⟨_, rfl⟩
        obtain ⟨N8, hN8⟩ : ∃ N8, N8 = 8 + n := ⟨_, rfl⟩
        have wE : IntKind.i64.wrap ((F8 : Int) + (n : Int)) = (E : Int) := by rw [IntWalk.i64_in _ (by omega)]; omega
        have wE7 : IntKind.i64.wrap ((F7 : Int) + (n : Int)) = (E7 : Int) := by rw [IntWalk.i64_in _ (by omega)]; omega
        have wN8 : IntKind.i64.wrap (8 + (n : Int)) = (N8 : Int) := by rw [IntWalk.i64_in _ (by omega)]; omega
        have wFE : IntKind.i64.wrap ((F : Int) + (N8 : Int)) = (E : Int) := by rw [IntWalk.i64_in _ (by omega)]; omega
        have g1 : ¬ (n : Int) < 1 := by omega
        have g2 : ¬ (400 : Int) < (n : Int) := by omega
        have g3 : ¬ (s.size : Int) < (E : Int) := by omega
        have i1 : (0 : Int) ≤ (F7 : Int) := by omega
        have i2 : (F7 : Int) ≤ (E7 : Int) := by omega
        have i3 : (E7 : Int) ≤ (s.size : Int) := by omega
        have i4 : (0 : Int) ≤ (F : Int) := by omega
        have i5 : (F : Int) ≤ (E : Int) := by omega
        have i6 : (E : Int) ≤ (s.size : Int) := by omega
        obtain ⟨r, hr⟩ : ∃ r, r = (T.drop 7).take n := ⟨_, rfl⟩
        have hrl : r.length = n := by
          have := HTL.out
          rw [hr, List.length_take, List.length_drop]; omega
        have x1 : s.extract F7 E7 = mkS r := by
          rw [mkS_extract, hr, HT.out, List.drop_drop, hF7, hE7, hF7, show F + 7 + n - (F + 7) = n by omega]
        have x2 : s.extract F E = mkS (T.take (n + 8)) := by
          rw [mkS_extract, HT.out, hE, hF8, show F + 8 + n - F = n + 8 by omega]
        have hrs : (mkS r).size = n := by rw [size_mkS, hrl]
        have HFR := Lib.hid (RFrame_ok (mkS r) (by omega) (by omega))
        rw [list_mkS] at HFR
        have hsb := same_bytes (T.take (n + 8)) (frameL r)
        by_cases heq : T.take (n + 8) = frameL r
        · rw [decide_eq_true heq] at hsb
          have HO : Hid (oneL (s.data.toList.drop F) = some r) := by
            show _ = _
            rw [← HT.out]
            unfold oneL
            have := HTL.out
            rw [if_neg (by omega), HLN.out, if_pos ⟨by omega, by omega, by omega, by rw [heq, hr]⟩, hr]
          have HFE : Hid (E = F + (r.length + 8) ∧ E ≤ s.size ∧ F < E) := ⟨by omega, by omega, by omega⟩
          obtain ⟨i0, hi, hz0, hz1, hz2⟩ := info_parts string_info
          have HLE : Hid (l.length ≤ 100000) := by
            have h1 := frames_count l
            have h2 : F = (frames l).length := HI.out.1
            show _ ≤ _
            omega
          clear hF8 hF1 hF2 hF7 hm hn hLs hE hE7 hN8 hr hrl hbad heq
          go_wp2_with fail
          go_quiet (fail)
          go_wp2_with fail
          refine (HFR.out _).mono ?_
          rintro e w5 ⟨rfl, ho5⟩
          have HI5 := Lib.hid ((RScanIn.keep HI.out ((Only.refl [] _).drewN _)).keep ho5)
          have HOW := Lib.hid HI5.out.2.2.2.1
          have HSZ := Lib.hid HI5.out.2.2.2.2.1.size
          clear ho5
          go_wp2_with (at_builtin; refine wpList_append_own_at _ rfl _ _ 37 rfl w.heap.size 9 i0 (.string ByteArray.empty) 1 16 Tryz.underlying37 hi hz0 hz1 hz2 rfl (by decide) _ _ _ rfl (HOW.out.alloc _) ⟨w5.heap.size, 0, none⟩ 1 1 [strV r] rfl rfl ?c1 ?c2 ?c3 ?c4 ?c5 ?_)
          case c1 =>
            intro m u hm
            match m, hm with
            | 0, hm => simp at hm; subst hm; simp [Addr.add, strV]
          case c2 => intro u hu; simp at hu; subst hu; rfl
          case c3 => have := HLE.out; unfold maxLen; omega
          case c4 => have := HLE.out; omega
          case c5 => have := HSZ.out; simp; omega
          intro v6 w6 hown6 hgrow6 hnil6 hat6
          have HI6 : Hid (RScanIn s w w6 v6 (l ++ [r]) E) := by
            have h := RScanIn.step HI5.out HO.out hown6 hgrow6 (fun h => hnil6 h)
            rw [HFE.out.1]
            exact h
          clear hown6 hgrow6 hnil6 hat6
          go_wp2_with fail
          go_roundw
          case rel => exact ⟨_, _, E, rfl, rfl, HFE.out.2.1, HI6⟩
          case measure => have := HFE.out.2; simp [intOf]; omega
        · rw [decide_eq_false heq] at hsb
          have HO : Hid (oneL (s.data.toList.drop F) = none) := by
            show _ = _
            rw [← HT.out]
            unfold oneL
            have := HTL.out
            rw [if_neg (by omega), HLN.out, if_neg]
            rintro ⟨_, _, _, q4⟩
            exact heq (by rw [q4, hr])
          clear hF8 hF1 hF2 hF7 hm hn hLs hE hE7 hN8 hr hrl hbad heq
          go_wp2_with fail
          go_quiet (fail)
          go_wp2_with fail
          refine (HFR.out _).mono ?_
          rintro e w5 ⟨rfl, ho5⟩
          have HI5 := Lib.hid ((RScanIn.keep HI.out ((Only.refl [] _).drewN _)).keep ho5)
          clear ho5
          go_wp2_with fail
          go_ret2
          exact HI5.out.out HO.out
    · have HO : Hid (oneL (s.data.toList.drop F) = none) := oneL_short (by rw [List.length_drop]; omega)
      have h8 : ¬ ((F8 : Int) < (s.size : Int)) := by omega
      go_wp2
      go_ret2
      exact HI.out.out HO.out
end Go.Proofs.YtngcdkbnljoodaaGreatDoor

namespace Go.Proofs.YtngcdkbnljoodaaGreatDoor
set_option linter.unusedVariables false
set_option linter.unusedSimpArgs false
open Go.RowKit Go.Proofs.YtngcdkbnljoodaaGreatDoorW.PrintWords

theorem blk_splice_same (l d : Bs) (n i : Nat) (hl : l.length = 32 * n) (hi : i < n) (hd : d.length ≤ 32) : blk (splice l (32 * i) d) i = d ++ (blk l i).drop d.length := by
  have h1 : (l.take (32 * i)).length = 32 * i := by rw [List.length_take]; omega
  unfold blk splice
  rw [List.append_assoc, List.drop_left' h1, List.take_append, List.take_of_length_le hd, List.drop_take, List.drop_drop]
theorem blk_splice_ne (l d : Bs) (n i j : Nat) (hl : l.length = 32 * n) (hi : i < n) (hd : d.length ≤ 32) (hij : j ≠ i) : blk (splice l (32 * i) d) j = blk l j := by
  have h1 : (l.take (32 * i)).length = 32 * i := by rw [List.length_take]; omega
  unfold blk splice
  rcases Nat.lt_or_gt_of_ne hij with h | h
  · rw [List.append_assoc, List.drop_append_of_le_length (by omega), List.take_append_of_le_length (by rw [List.length_drop]; omega), List.drop_take, List.take_take, Nat.min_eq_left (by omega)]
  · rw [List.drop_append, List.drop_of_length_le (by rw [List.length_append]; omega), List.nil_append, List.drop_drop, List.length_append, h1]
    congr 2
    omega
theorem take_blk (l : Bs) (i : Nat) : l.take (32 * (i + 1)) = l.take (32 * i) ++ blk l i := by
  rw [show 32 * (i + 1) = 32 * i + 32 by omega, take_split]
  rfl
def refC (v : Value) (f p : Int) (d : Bool) (m : Int) : Array Value := #[v, .int .i64 f, .int .i64 p, .bool d, .int .i64 m]
/-- Blocks q, g are the reference's store in the state s. -/
structure StR (w : World) (q g : Nat) (s : St) : Prop where
  wf : s.Wf
  ne : q ≠ g
  head : ∃ (cap : Nat) (m : Int), w.heap[q]? = some (.cells (refC (.slice (some ⟨g, 0, none⟩) s.n cap) s.fuse s.pre s.down m) 56 (0, 0))
  row : ∃ cur : Array Value, w.heap[g]? = some (.cells cur 9 (0, 0)) ∧ ∀ i, i < s.n → cur[i]? = some (strV (blk s.bs i))
theorem StR.only {S : List Nat} {w w' : World} {q g : Nat} {s : St} (h : StR w q g s) (ho : Only S w w') (h1 : q ∉ S) (h2 : g ∉ S) : StR w' q g s := by
  obtain ⟨a, b, ⟨cap, m, c⟩, ⟨cur, d, e⟩⟩ := h
  exact ⟨a, b, ⟨cap, m, ho.blk c h1⟩, ⟨cur, ho.blk d h2, e⟩⟩
theorem refF {w : World} {q : Nat} {v : Value} {f p : Int} {d : Bool} {m : Int} (h : w.heap[q]? = some (.cells (refC v f p d m) 56 (0, 0))) :
    w.cell? ⟨q, 0, none⟩ = some v ∧ w.cell? ⟨q, 1, none⟩ = some (.int .i64 f) ∧ w.cell? ⟨q, 2, none⟩ = some (.int .i64 p) ∧ w.cell? ⟨q, 3, none⟩ = some (.bool d) ∧ w.cell? ⟨q, 4, none⟩ = some (.int .i64 m) ∧
    w.frozen? ⟨q, 0, none⟩ = false ∧ w.frozen? ⟨q, 1, none⟩ = false ∧ w.frozen? ⟨q, 2, none⟩ = false ∧ w.frozen? ⟨q, 3, none⟩ = false ∧ w.frozen? ⟨q, 4, none⟩ = false :=
  ⟨blk_cell h 0, blk_cell h 1, blk_cell h 2, blk_cell h 3, blk_cell h 4, blk_frozen h 0, blk_frozen h 1, blk_frozen h 2, blk_frozen h 3, blk_frozen h 4⟩
/-- What is read of a block. -/
def rdV (s : St) (i : Int) : Value := .tuple #[.string (if s.may i = 0 then mkS (blk s.bs i.toNat) else mkS []), .int .i64 (s.may i)]
set_option maxHeartbeats 2000000 in
theorem RRead_of {w : World} {q g : Nat} {s : St} (h : StR w q g s) (i : Int) :
    Calls Tryz.prog 47 #[.pointer (some ⟨q, 0, none⟩), .int .i64 i] w fun e w' => e = .returned (rdV s i) ∧ w = w' := by
  obtain ⟨hwf, hne, ⟨cap, m, hq⟩, ⟨cur, hg, hc⟩⟩ := h
  obtain ⟨c0, c1, c2, c3, c4, f0, f1, f2, f3, f4⟩ := refF hq
  have hn := hwf.hi
  unfold rdV
  rcases s.may_cases i with ⟨h1, h2⟩ | ⟨h1, h2, h3⟩ | ⟨h1, h2, h3, h4⟩
  · rw [h1, if_neg (by decide)]
    rw [h2] at c3
    clear hwf hne hq hg hc
    go_enter Tryz.func47, Tryz.ntmps47
    go_wp2
    go_ret2
    exact ⟨rfl, rfl⟩
  · rw [h1, if_neg (by decide)]
    rw [h2] at c3
    clear hwf hne hq hg hc
    by_cases hi0 : i < 0
    · go_enter Tryz.func47, Tryz.ntmps47
      go_wp2
      go_ret2
      exact ⟨rfl, rfl⟩
    · have hi1 : (s.n : Int) ≤ i := by omega
      go_enter Tryz.func47, Tryz.ntmps47
      go_wp2
      go_ret2
      exact ⟨rfl, rfl⟩
  · rw [h1, if_pos rfl]
    rw [h2] at c3
    obtain ⟨k, rfl⟩ : ∃ k : Nat, i = (k : Int) := ⟨i.toNat, by omega⟩
    have hk : k < s.n := by omega
    have hck : w.cell? ⟨g, k, none⟩ = some (.string (mkS (blk s.bs k))) := (blk_cell hg k).trans (hc k hk)
    have hi0 : ¬ (k : Int) < 0 := by omega
    have hi1 : ¬ (s.n : Int) ≤ (k : Int) := by omega
    rw [Int.toNat_natCast]
    clear hwf hne hq hg hc
    go_enter Tryz.func47, Tryz.ntmps47
    go_wp2
    go_ret2
    exact ⟨rfl, rfl⟩
/-- A block is set in the row. -/
theorem StR.row_set {w : World} {g : Nat} {cur : Array Value} {n i : Nat} {bs d x : Bs} (hg : w.heap[g]? = some (.cells cur 9 (0, 0))) (hc : ∀ j, j < n → cur[j]? = some (strV (blk bs j))) (hl : bs.length = 32 * n) (hi : i < n) (hd : d.length ≤ 32) (hx : x = d ++ (blk bs i).drop d.length) :
    ∃ cur' : Array Value, (w.setCell ⟨g, i, none⟩ (.string (mkS x))).heap[g]? = some (.cells cur' 9 (0, 0)) ∧ ∀ j, j < n → cur'[j]? = some (strV (blk (splice bs (32 * i) d) j)) := by
  refine ⟨_, blk_set hg i _, fun j hj => ?_⟩
  have hcs : i < cur.size := (Array.getElem?_eq_some_iff.1 (hc i hi)).1
  by_cases hij : i = j
  · subst hij
    rw [Array.getElem?_setIfInBounds_self_of_lt hcs, blk_splice_same bs d n i hl hi hd, hx]
    rfl
  · rw [Array.getElem?_setIfInBounds_ne hij, blk_splice_ne bs d n i j hl hi hd (fun e => hij e.symm)]
    exact hc j hj
theorem rfuse_fin {w : World} {q g : Nat} {s : St} (x y : Int) (hw : Hid ((s.setFuse x y).Wf)) (ne : Hid (q ≠ g)) {cap : Nat} {m : Int} {cur : Array Value} (hq : Hid (w.heap[q]? = some (.cells (refC (.slice (some ⟨g, 0, none⟩) s.n cap) s.fuse s.pre s.down m) 56 (0, 0))))
    (hg : Hid (w.heap[g]? = some (.cells cur 9 (0, 0)))) (hc : Hid (∀ i, i < s.n → cur[i]? = some (strV (blk s.bs i)))) (f k : Int) (hf : f = max x (-1)) (hk : k = max y 0 % 33) :
    StR ((w.setCell ⟨q, 1, none⟩ (.int .i64 f)).setCell ⟨q, 2, none⟩ (.int .i64 k)) q g (s.setFuse x y) ∧ Only [q] w ((w.setCell ⟨q, 1, none⟩ (.int .i64 f)).setCell ⟨q, 2, none⟩ (.int .i64 k)) := by
  subst hf
  subst hk
  refine ⟨⟨hw.out, ne.out, ⟨cap, m, ?_⟩, ⟨cur, ?_, hc.out⟩⟩, ((Only.refl [q] w).setCell (p := ⟨q, 1, none⟩) (Or.inl (by simp)) _).setCell (p := ⟨q, 2, none⟩) (Or.inl (by simp)) _⟩
  · have h2 := blk_set (blk_set hq.out 1 (.int .i64 (max x (-1)))) 2 (.int .i64 (max y 0 % 33))
    have e : ((s.setFuse x y).pre : Int) = max y 0 % 33 := by show (((max y 0 % 33).toNat : Nat) : Int) = _; omega
    rw [e]
    exact h2
  · exact blk_far (blk_far hg.out (p := ⟨q, 1, none⟩) (fun e => ne.out e.symm) _) (p := ⟨q, 2, none⟩) (fun e => ne.out e.symm) _
theorem rup_fin {w : World} {q g : Nat} {s : St} (hw : Hid (s.up.Wf)) (ne : Hid (q ≠ g)) {cap : Nat} {m : Int} {cur : Array Value} (hq : Hid (w.heap[q]? = some (.cells (refC (.slice (some ⟨g, 0, none⟩) s.n cap) s.fuse s.pre s.down m) 56 (0, 0))))
    (hg : Hid (w.heap[g]? = some (.cells cur 9 (0, 0)))) (hc : Hid (∀ i, i < s.n → cur[i]? = some (strV (blk s.bs i)))) :
    StR ((w.setCell ⟨q, 3, none⟩ (.bool false)).setCell ⟨q, 1, none⟩ (.int .i64 (-1))) q g s.up ∧ Only [q] w ((w.setCell ⟨q, 3, none⟩ (.bool false)).setCell ⟨q, 1, none⟩ (.int .i64 (-1))) := by
  refine ⟨⟨hw.out, ne.out, ⟨cap, m, ?_⟩, ⟨cur, ?_, hc.out⟩⟩, ((Only.refl [q] w).setCell (p := ⟨q, 3, none⟩) (Or.inl (by simp)) _).setCell (p := ⟨q, 1, none⟩) (Or.inl (by simp)) _⟩
  · exact blk_set (blk_set hq.out 3 (.bool false)) 1 (.int .i64 (-1))
  · exact blk_far (blk_far hg.out (p := ⟨q, 3, none⟩) (fun e => ne.out e.symm) _) (p := ⟨q, 1, none⟩) (fun e => ne.out e.symm) _
set_option maxHeartbeats 2000000 in
theorem RFuse_of {w : World} {q g : Nat} {s : St} (h : StR w q g s) (x y : Int) (hx : x ≤ 9223372036854775807) :
    Calls Tryz.prog 15 #[.pointer (some ⟨q, 0, none⟩), .int .i64 x, .int .i64 y] w fun e w' => e = .returned (.tuple #[]) ∧ StR w' q g (s.setFuse x y) ∧ Only [q] w w' := by
  obtain ⟨hwf, hne, ⟨cap, m, hq⟩, ⟨cur, hg, hc⟩⟩ := h
  obtain ⟨c0, c1, c2, c3, c4, f0, f1, f2, f3, f4⟩ := refF hq
  have HW := Lib.hid (St.setFuse_wf hwf x y hx)
  have HNE := Lib.hid hne
  have HQ := Lib.hid hq
  have HG := Lib.hid hg
  have HC := Lib.hid hc
  clear hwf hne hq hg hc
  go_enter Tryz.func15, Tryz.ntmps15
  go_wp2
  all_goals
    go_end0
    exact ⟨rfl, rfuse_fin x y HW HNE HQ HG HC _ _ (by omega) (by omega)⟩
set_option maxHeartbeats 2000000 in
theorem RUp_of {w : World} {q g : Nat} {s : St} (h : StR w q g s) :
    Calls Tryz.prog 17 #[.pointer (some ⟨q, 0, none⟩)] w fun e w' => e = .returned (.tuple #[]) ∧ StR w' q g s.up ∧ Only [q] w w' := by
  obtain ⟨hwf, hne, ⟨cap, m, hq⟩, ⟨cur, hg, hc⟩⟩ := h
  obtain ⟨c0, c1, c2, c3, c4, f0, f1, f2, f3, f4⟩ := refF hq
  have HW := Lib.hid (St.up_wf hwf)
  have HNE := Lib.hid hne
  have HQ := Lib.hid hq
  have HG := Lib.hid hg
  have HC := Lib.hid hc
  clear hwf hne hq hg hc
  go_enter Tryz.func17, Tryz.ntmps17
  go_wp2
  go_end0
  exact ⟨rfl, rup_fin HW HNE HQ HG HC⟩
theorem StR.put {w : World} {q g : Nat} {s : St} (h : StR w q g s) {i : Nat} (hi : i < s.n) (d : Bs) (y : ByteArray) (hd : d.length ≤ 32) (hy : y.data.toList = d ++ (blk s.bs i).drop d.length) :
    StR (w.setCell ⟨g, i, none⟩ (.string y)) q g { s with bs := splice s.bs (32 * i) d } ∧ Only [q, g] w (w.setCell ⟨g, i, none⟩ (.string y)) := by
  obtain ⟨hw, ne, ⟨cap, m, hq⟩, ⟨cur, hg, hc⟩⟩ := h
  have hl := hw.len
  obtain ⟨cur', h1, h2⟩ := StR.row_set (w := w) hg hc hl hi hd hy
  rw [mkS_list] at h1
  refine ⟨⟨⟨by show (splice _ _ _).length = _; rw [splice_length _ _ _ (by omega)]; exact hl, hw.pre, hw.fuse, hw.top, hw.lo, hw.hi⟩, ne, ⟨cap, m, ?_⟩, ⟨cur', h1, h2⟩⟩, (Only.refl _ w).setCell (p := ⟨g, i, none⟩) (Or.inl (by simp)) _⟩
  exact blk_far hq (p := ⟨g, i, none⟩) (fun e => ne e) _
theorem StR.many {w : World} {q g : Nat} {s : St} (h : StR w q g s) (v : Int) : StR (w.setCell ⟨q, 4, none⟩ (.int .i64 v)) q g s ∧ Only [q, g] w (w.setCell ⟨q, 4, none⟩ (.int .i64 v)) := by
  obtain ⟨hw, ne, ⟨cap, m, hq⟩, ⟨cur, hg, hc⟩⟩ := h
  exact ⟨⟨hw, ne, ⟨cap, v, blk_set hq 4 (.int .i64 v)⟩, ⟨cur, blk_far hg (p := ⟨q, 4, none⟩) (fun e => ne e.symm) _, hc⟩⟩, (Only.refl _ w).setCell (p := ⟨q, 4, none⟩) (Or.inl (by simp)) _⟩
theorem StR.fuseTo {w : World} {q g : Nat} {s : St} (h : StR w q g s) (f : Int) (hf : -1 ≤ f ∧ f ≤ 9223372036854775807) : StR (w.setCell ⟨q, 1, none⟩ (.int .i64 f)) q g { s with fuse := f } ∧ Only [q, g] w (w.setCell ⟨q, 1, none⟩ (.int .i64 f)) := by
  obtain ⟨hw, ne, ⟨cap, m, hq⟩, ⟨cur, hg, hc⟩⟩ := h
  exact ⟨⟨⟨hw.len, hw.pre, hf.1, hf.2, hw.lo, hw.hi⟩, ne, ⟨cap, m, blk_set hq 1 (.int .i64 f)⟩, ⟨cur, blk_far hg (p := ⟨q, 1, none⟩) (fun e => ne e.symm) _, hc⟩⟩, (Only.refl _ w).setCell (p := ⟨q, 1, none⟩) (Or.inl (by simp)) _⟩
theorem StR.downTo {w : World} {q g : Nat} {s : St} (h : StR w q g s) (d : Bool) : StR (w.setCell ⟨q, 3, none⟩ (.bool d)) q g { s with down := d } ∧ Only [q, g] w (w.setCell ⟨q, 3, none⟩ (.bool d)) := by
  obtain ⟨hw, ne, ⟨cap, m, hq⟩, ⟨cur, hg, hc⟩⟩ := h
  exact ⟨⟨⟨hw.len, hw.pre, hw.fuse, hw.top, hw.lo, hw.hi⟩, ne, ⟨cap, m, blk_set hq 3 (.bool d)⟩, ⟨cur, blk_far hg (p := ⟨q, 3, none⟩) (fun e => ne e.symm) _, hc⟩⟩, (Only.refl _ w).setCell (p := ⟨q, 3, none⟩) (Or.inl (by simp)) _⟩
theorem RWrite_no {w : World} {q g : Nat} {s : St} (h : StR w q g s) (i : Int) (d : ByteArray) (hm : s.may i ≠ 0) :
    Calls Tryz.prog 20 #[.pointer (some ⟨q, 0, none⟩), .int .i64 i, .string d] w fun e w' => e = .returned (.int .i64 (s.may i)) ∧ w = w' := by
  have HR := Lib.hid (RRead_of h i)
  unfold rdV at HR
  rw [if_neg hm] at HR
  have hne : (s.may i != 0) = true := by rw [bne_iff_ne]; exact hm
  generalize s.may i = c at *
  clear hm h
  go_enter Tryz.func20, Tryz.ntmps20
  go_wp2_with fail
  refine (HR.out).mono ?_
  rintro e _ ⟨rfl, rfl⟩
  go_wp2_with fail
  go_ret
  exact ⟨rfl, rfl⟩
theorem RWrite_len {w : World} {q g : Nat} {s : St} (h : StR w q g s) (i : Int) (d : ByteArray) (hm : s.may i = 0) (hd : d.size ≠ 32) :
    Calls Tryz.prog 20 #[.pointer (some ⟨q, 0, none⟩), .int .i64 i, .string d] w fun e w' => e = .returned (.int .i64 1) ∧ w = w' := by
  have HR := Lib.hid (RRead_of h i)
  unfold rdV at HR
  rw [if_pos hm, hm] at HR
  have hne : ((d.size : Int) != 32) = true := by rw [bne_iff_ne]; omega
  clear hm h
  go_enter Tryz.func20, Tryz.ntmps20
  go_wp2_with fail
  refine (HR.out).mono ?_
  rintro e _ ⟨rfl, rfl⟩
  go_wp2_with fail
  go_ret
  exact ⟨rfl, rfl⟩
set_option maxHeartbeats 2000000 in
theorem RWrite_go {w : World} {q g : Nat} {s : St} (h : StR w q g s) (i : Nat) (hi : i < s.n) (d : ByteArray) (hm : s.may (i : Int) = 0) (hd : (d.size : Int) = 32) (hf0 : s.fuse ≠ 0) :
    Calls Tryz.prog 20 #[.pointer (some ⟨q, 0, none⟩), .int .i64 (i : Int), .string d] w fun e w' => e = .returned (.int .i64 0) ∧ StR w' q g { s with bs := splice s.bs (32 * i) d.data.toList, fuse := max (s.fuse - 1) (-1) } ∧ Only [q, g] w w' := by
  have HR := Lib.hid (RRead_of h (i : Int))
  unfold rdV at HR
  rw [if_pos hm, hm] at HR
  have HH := Lib.hid h
  obtain ⟨hwf, hne, ⟨cap, m, hq⟩, ⟨cur, hg, hc⟩⟩ := h
  obtain ⟨c0, c1, c2, c3, c4, f0, f1, f2, f3, f4⟩ := refF hq
  have hfl := hwf.fuse
  have hft := hwf.top
  have hck : w.cell? ⟨g, i, none⟩ = some (.string (mkS (blk s.bs i))) := (blk_cell hg i).trans (hc i hi)
  have hfk : w.frozen? ⟨g, i, none⟩ = false := blk_frozen hg i
  have hi0 : (0 : Int) ≤ (i : Int) := by omega
  have hi1 : (i : Int) < (s.n : Int) := by omega
  have hfb : (s.fuse == 0) = false := beq_eq_false_iff_ne.mpr hf0
  have hne2 : g ≠ q := fun e => hne e.symm
  have HQ := Lib.hid hq
  have HG := Lib.hid hg
  have HC := Lib.hid hc
  clear hm hq hg hc hwf
  go_enter Tryz.func20, Tryz.ntmps20
  go_wp2_with fail
  refine (HR.out).mono ?_
  rintro e _ ⟨rfl, rfl⟩
  go_wp2_with fail
  · go_ret
    have e1 := HH.out.fuseTo (s.fuse - 1) (by omega)
    have e2 := e1.1.put (i := i) hi d.data.toList d (by show d.size ≤ 32; omega) (by rw [List.drop_of_length_le (by rw [blk_length _ s.n _ HH.out.wf.len hi]; show 32 ≤ d.size; omega), List.append_nil])
    have e3 := e2.1.many (wrap64 (m + 1))
    have hmx : max (s.fuse - 1) (-1) = s.fuse - 1 := by omega
    rw [hmx]
    exact ⟨rfl, e3.1, (e1.2.tr e2.2).tr e3.2⟩
  · go_ret
    have e2 := HH.out.put (i := i) hi d.data.toList d (by show d.size ≤ 32; omega) (by rw [List.drop_of_length_le (by rw [blk_length _ s.n _ HH.out.wf.len hi]; show 32 ≤ d.size; omega), List.append_nil])
    have e3 := e2.1.many (wrap64 (m + 1))
    have hmx : max (s.fuse - 1) (-1) = s.fuse := by omega
    rw [hmx]
    exact ⟨rfl, e3.1, e2.2.tr e3.2⟩
set_option maxHeartbeats 4000000 in
set_option maxRecDepth 100000 in
theorem RWrite_torn {w : World} {q g : Nat} {s : St} (h : StR w q g s) (i : Nat) (hi : i < s.n) (d : ByteArray) (hm : s.may (i : Int) = 0) (hd : (d.size : Int) = 32) (hf0 : s.fuse = 0) :
    Calls Tryz.prog 20 #[.pointer (some ⟨q, 0, none⟩), .int .i64 (i : Int), .string d] w fun e w' => e = .returned (.int .i64 16) ∧ StR w' q g { s with bs := splice s.bs (32 * i) (d.data.toList.take s.pre), down := true, fuse := -1 } ∧ Only [q, g] w w' := by
  have HR := Lib.hid (RRead_of h (i : Int))
  unfold rdV at HR
  rw [if_pos hm, hm, Int.toNat_natCast] at HR
  have HH := Lib.hid h
  obtain ⟨hwf, hne, ⟨cap, m, hq⟩, ⟨cur, hg, hc⟩⟩ := h
  rw [hf0] at hq
  obtain ⟨c0, c1, c2, c3, c4, f0, f1, f2, f3, f4⟩ := refF hq
  have hpre := hwf.pre
  have hck : w.cell? ⟨g, i, none⟩ = some (.string (mkS (blk s.bs i))) := (blk_cell hg i).trans (hc i hi)
  have hfk : w.frozen? ⟨g, i, none⟩ = false := blk_frozen hg i
  have hbl : (blk s.bs i).length = 32 := blk_length _ s.n _ hwf.len hi
  have hi0 : (0 : Int) ≤ (i : Int) := by omega
  have hi1 : (i : Int) < (s.n : Int) := by omega
  have hne2 : g ≠ q := fun e => hne e.symm
  obtain ⟨X, hX⟩ : ∃ X, X = mkS (blk s.bs i) := ⟨_, rfl⟩
  rw [← hX] at hck HR
  have hXs : X.size = 32 := by rw [hX, size_mkS]; exact hbl
  obtain ⟨P, hP⟩ : ∃ P, P = s.pre := ⟨_, rfl⟩
  rw [← hP] at c2
  obtain ⟨A, hA⟩ : ∃ A, A = mkS (d.data.toList.take P) := ⟨_, rfl⟩
  obtain ⟨B, hB⟩ : ∃ B, B = mkS ((blk s.bs i).drop P) := ⟨_, rfl⟩
  have eA : d.extract 0 P = A := by rw [mkS_extract, hA]; rfl
  have eB : X.extract P X.size = B := by rw [mkS_extract, hB, hXs, hX, list_mkS, List.take_of_length_le (by rw [List.length_drop]; omega)]
  have eB' : X.extract P 32 = B := by rw [← hXs]; exact eB
  have hAs : A.size ≤ 32 := by rw [hA, size_mkS, List.length_take]; omega
  have hBs : B.size ≤ 32 := by rw [hB, size_mkS, List.length_drop]; omega
  obtain ⟨Y, hY⟩ : ∃ Y, Y = A ++ B := ⟨_, rfl⟩
  have r1 : ∀ W : World, (Op.stringOp .add A B).run Tryz.prog W = .ok (.string Y) W := fun W => by rw [run_string_add_sum W A B (by omega), hY]
  have p0 : (0 : Int) ≤ (P : Int) := by omega
  have p1 : (P : Int) ≤ (d.size : Int) := by omega
  have p2 : (P : Int) ≤ (X.size : Int) := by omega
  have p3 : (P : Int) ≤ 32 := by omega
  have HYY : Hid (Y.data.toList = d.data.toList.take P ++ (blk s.bs i).drop P) := by show _ = _; rw [hY, hA, hB, mkS_append, list_mkS]
  have HP := Lib.hid hP
  have hwd : w.drew.cell? ⟨g, i, none⟩ = some (.string X) := hck
  clear hm hq hg hc hwf hX hA hB hP hY hpre hbl
  go_enter Tryz.func20, Tryz.ntmps20
  go_wp2_with fail
  refine (HR.out).mono ?_
  rintro e _ ⟨rfl, rfl⟩
  go_wp2_with fail
  go_still_tail 25, (by kernel_rfl)
  have HH2 : Hid (StR w.drew q g s) := HH.out.only ((Only.refl [] w).drew) (by simp) (by simp)
  have HOD : Hid (Only [q, g] w w.drew) := (Only.refl _ w).drew
  change wpList _ _ _ _ _ w.drew
  have hwf2 : w.drew.frozen? ⟨g, i, none⟩ = false := hfk
  have g0 : w.drew.cell? ⟨q, 0, none⟩ = some (.slice (some ⟨g, 0, none⟩) s.n cap) := c0
  have g1 : w.drew.cell? ⟨q, 1, none⟩ = some (.int .i64 0) := c1
  have g3 : w.drew.cell? ⟨q, 3, none⟩ = some (.bool s.down) := c3
  have k1 : w.drew.frozen? ⟨q, 1, none⟩ = false := f1
  have k3 : w.drew.frozen? ⟨q, 3, none⟩ = false := f3
  clear c0 c1 c2 c3 c4 f0 f1 f2 f3 f4 hck hfk
  generalize w.drew = w2 at *
  go_wp2_with fail
  go_ret
  have e1 := HH2.out.put (i := i) hi (d.data.toList.take s.pre) Y (by rw [List.length_take]; have : d.data.toList.length = d.size := rfl; omega) (by rw [HYY.out, HP.out, List.length_take, Nat.min_eq_left (by have : d.data.toList.length = d.size := rfl; have := HP.out; omega)])
  have e2 := e1.1.downTo true
  have e3 := e2.1.fuseTo (-1) (by omega)
  exact ⟨rfl, e3.1, ((HOD.out.tr e1.2).tr e2.2).tr e3.2⟩
theorem RWrite_of {w : World} {q g : Nat} {s : St} (h : StR w q g s) (i : Int) (d : ByteArray) :
    Calls Tryz.prog 20 #[.pointer (some ⟨q, 0, none⟩), .int .i64 i, .string d] w fun e w' => e = .returned (.int .i64 (s.write i d.data.toList).2) ∧ StR w' q g (s.write i d.data.toList).1 ∧ Only [q, g] w w' := by
  have hdl : d.data.toList.length = d.size := rfl
  unfold St.write
  by_cases hm : s.may i = 0
  · rw [if_neg (by rw [hm]; decide)]
    by_cases hd : d.size = 32
    · rw [if_neg (by omega)]
      obtain ⟨k, rfl⟩ : ∃ k : Nat, i = (k : Int) := ⟨i.toNat, by rcases s.may_cases i with ⟨h1, _⟩ | ⟨h1, _⟩ | ⟨_, _, h3, _⟩ <;> omega⟩
      have hk : k < s.n := by rcases s.may_cases (k : Int) with ⟨h1, _⟩ | ⟨h1, _⟩ | ⟨_, _, _, h4⟩ <;> omega
      by_cases hf : s.fuse = 0
      · rw [if_pos hf]
        exact RWrite_torn h k hk d hm (by omega) hf
      · rw [if_neg hf]
        exact RWrite_go h k hk d hm (by omega) hf
    · rw [if_pos (by omega)]
      refine (RWrite_len h i d hm hd).mono ?_
      rintro e _ ⟨rfl, rfl⟩
      exact ⟨rfl, h, Only.refl _ _⟩
  · rw [if_pos hm]
    refine (RWrite_no h i d hm).mono ?_
    rintro e _ ⟨rfl, rfl⟩
    exact ⟨rfl, h, Only.refl _ _⟩
set_option maxHeartbeats 2000000 in
theorem RBytes_of {w : World} {q g : Nat} {s : St} (h : StR w q g s) :
    Calls Tryz.prog 22 #[.pointer (some ⟨q, 0, none⟩)] w fun e w' => e = .returned (.string (mkS s.bs)) ∧ w = w' := by
  obtain ⟨hwf, hne, ⟨cap, m, hq⟩, ⟨cur, hg, hc⟩⟩ := h
  obtain ⟨c0, c1, c2, c3, c4, f0, f1, f2, f3, f4⟩ := refF hq
  have hlen := hwf.len
  have hhi := hwf.hi
  obtain ⟨N, hN⟩ : ∃ N, N = s.n := ⟨_, rfl⟩
  rw [← hN] at c0 hlen hhi hc
  have HC : Hid (∀ i, i < N → w.cell? ⟨g, i, none⟩ = some (.string (mkS (blk s.bs i)))) := fun i hi => (blk_cell hg i).trans (hc i hi)
  generalize s.bs = bs at *
  have HL := Lib.hid hlen
  clear hwf hne hq hg hc hN hlen
  go_enter Tryz.func22, Tryz.ntmps22
  go_wp2
  go_loopw [3, 4] (fun o i wr => ∃ k : Nat, k ≤ N ∧ i = .int .i64 (k : Int) ∧ o = .string (mkS (bs.take (32 * k))) ∧ wr = w) (fun _ i _ => N - (intOf i).toNat)
  case atStart => exact ⟨0, Nat.zero_le _, rfl, rfl, rfl⟩
  case round =>
    obtain ⟨k, hk, rfl, rfl, rfl⟩ := hrel
    by_cases hkN : k < N
    · have hck := HC.out k hkN
      have hs := take_blk bs k
      obtain ⟨A, hA⟩ : ∃ A, A = mkS (bs.take (32 * k)) := ⟨_, rfl⟩
      obtain ⟨B, hB⟩ : ∃ B, B = mkS (blk bs k) := ⟨_, rfl⟩
      have HAB : Hid (mkS (bs.take (32 * (k + 1))) = A ++ B) := by show _ = _; rw [hs, hA, hB, mkS_append]
      have hAs : A.size ≤ 10000 := by rw [hA, size_mkS, List.length_take]; have := HL.out; omega
      have hBs : B.size ≤ 10000 := by rw [hB, size_mkS]; unfold blk; rw [List.length_take]; omega
      rw [← hB] at hck
      rw [← hA]
      have r1 : ∀ W : World, (Op.stringOp .add A B).run Tryz.prog W = .ok (.string (A ++ B)) W := fun W => by rw [run_string_add_sum W A B (by omega)]
      have hc0 : (0 : Int) ≤ (k : Int) := by omega
      have hc1 : (k : Int) < (N : Int) := by omega
      have hwr : IntKind.i64.wrap ((k : Int) + 1) = (k : Int) + 1 := IntWalk.i64_in _ (by omega)
      clear hs hA hB
      go_wp2
      go_roundw
      case rel => exact ⟨k + 1, by omega, rfl, by rw [HAB.out], trivial⟩
      case measure => simp [intOf]; omega
    · obtain rfl : k = N := by omega
      have hall : bs.take (32 * k) = bs := List.take_of_length_le (by have := HL.out; omega)
      rw [hall]
      clear hall
      go_wp2
      go_ret
      exact ⟨rfl, rfl⟩
/-- The new store, while its row grows. -/
def RNewIn (w wr : World) (k : Nat) : Prop :=
  ∃ v, wr.heap[w.heap.size]? = some (.cells (refC v (-1) 0 false 0) 56 (0, 0)) ∧ wr.ownsRow (w.heap.size + 1) 9 1 v (List.replicate k (zs 32)).length ((List.replicate k (zs 32)).map strV) ∧ Only [] w wr
theorem RNewIn.done {w wr : World} {n : Nat} (h : RNewIn w wr n) (h1 : 1 ≤ n) (h2 : n ≤ 256) : ∃ g, w.heap.size < g ∧ StR wr w.heap.size g (St.new n) ∧ Only [] w wr := by
  obtain ⟨v, hq, ⟨hs, hown⟩, ho⟩ := h
  rcases hown with ⟨_, hn⟩ | ⟨g, cap, cur, hv, hg, hb, hn, hc, _, ht⟩
  · rw [List.length_replicate] at hn; omega
  · subst hv
    rw [List.length_replicate] at hq hn ht
    refine ⟨g, hg, ⟨St.new_wf h1 h2, by omega, ⟨cap, 0, hq⟩, ⟨cur, hb, fun i hi => ?_⟩⟩, ho⟩
    have hi' : i < n := hi
    have := congrArg (fun L => L[i]?) ht
    simp only [List.getElem?_map, List.getElem?_replicate, if_pos hi', Option.map_some, Nat.mul_one] at this
    rw [List.getElem?_take, if_pos hi'] at this
    have hz : blk (St.new n).bs i = zs 32 := by
      show ((zs (32 * n)).drop (32 * i)).take 32 = _
      rw [zs_drop, zs_take _ _ (by omega)]
    rw [hz]
    simpa using this
theorem RNewIn.step {w wr w' : World} {k : Nat} {v v' : Value} {o : Obj} (hq : wr.heap[w.heap.size]? = some (.cells (refC v (-1) 0 false 0) 56 (0, 0))) (hv : wr.ownsRow (w.heap.size + 1) 9 1 v (List.replicate k (zs 32)).length ((List.replicate k (zs 32)).map strV)) (ho : Only [] w wr)
    (hown : w'.ownsRow (w.heap.size + 1) 9 1 v' (k + 1) (List.replicate k (strV (zs 32)) ++ [strV (zs 32)])) (hg : (wr.alloc o).grownBy w' v.ownBlock) :
    w'.heap[w.heap.size]? = some (.cells (refC v (-1) 0 false 0) 56 (0, 0)) ∧ RNewIn w (w'.setCell ⟨w.heap.size, 0, none⟩ v') (k + 1) := by
  have hO : Only v.ownBlock.toList wr w' := ((Only.refl _ wr).alloc o).grown hg (fun x hx => Or.inl (by rw [hx]; simp))
  have hne : w.heap.size ∉ v.ownBlock.toList := fun hx => by have := (hv.lt _ (by simpa using hx)).1; omega
  have hq' := hO.blk hq hne
  refine ⟨hq', v', blk_set hq' 0 v', ?_, ?_⟩
  · have h2 : Only [w.heap.size] w' (w'.setCell ⟨w.heap.size, 0, none⟩ v') := (Only.refl _ _).setCell (p := ⟨w.heap.size, 0, none⟩) (Or.inl (by simp)) _
    have h3 := own_keep hown h2 (fun g hg hm => by rw [List.mem_singleton.1 hm] at hg; have := (hown.lt _ hg).1; omega)
    rw [show List.replicate (k + 1) (zs 32) = List.replicate k (zs 32) ++ [zs 32] from List.replicate_succ', List.length_append, List.map_append, List.map_replicate, List.length_replicate]
    exact h3
  · have h4 : Only [] w w' := ho.trans hO (fun x hx => Or.inr (by have := (hv.lt _ (by simpa using hx)).1; omega))
    exact h4.setCell (p := ⟨w.heap.size, 0, none⟩) (Or.inr (Nat.le_refl _)) _
theorem RNew_bad (n : Int) (h : n < 1 ∨ 256 < n) (w : World) :
    Calls Tryz.prog 6 #[.int .i64 n] w fun e w' => e = .returned (.tuple #[.pointer none, .int .i64 1]) ∧ w = w' := by
  rcases h with h | h
  · go_enter Tryz.func6, Tryz.ntmps6
    go_wp2
    go_ret2
    exact ⟨rfl, rfl⟩
  · have h1 : ¬ n < 1 := by omega
    go_enter Tryz.func6, Tryz.ntmps6
    go_wp2
    go_ret2
    exact ⟨rfl, rfl⟩
set_option maxHeartbeats 4000000 in
set_option maxRecDepth 100000 in
theorem RNew_ok (n : Nat) (h1 : 1 ≤ n) (h2 : n ≤ 256) (w : World) :
    Calls Tryz.prog 6 #[.int .i64 (n : Int)] w fun e w' => e = .returned (.tuple #[.pointer (some ⟨w.heap.size, 0, none⟩), .int .i64 0]) ∧ ∃ g, w.heap.size < g ∧ StR w' w.heap.size g (St.new n) ∧ Only [] w w' := by
  have g1 : ¬ (n : Int) < 1 := by omega
  have g2 : ¬ (256 : Int) < (n : Int) := by omega
  go_enter Tryz.func6, Tryz.ntmps6
  go_wp2
  go_loopw [4, 5] (fun o i wr => ∃ k : Nat, k ≤ 32 ∧ i = .int .i64 (k : Int) ∧ o = .string (mkS (zs k)) ∧ w = wr) (fun _ i _ => 32 - (intOf i).toNat)
  case atStart => exact ⟨0, by omega, rfl, rfl, rfl⟩
  case round =>
    obtain ⟨k, hk, rfl, rfl, rfl⟩ := hrel
    by_cases hk32 : k < 32
    · obtain ⟨A, hA⟩ : ∃ A, A = mkS (zs k) := ⟨_, rfl⟩
      obtain ⟨O, hO⟩ : ∃ O : ByteArray, O = { data := #[0] } := ⟨_, rfl⟩
      have HAO : Hid (mkS (zs (k + 1)) = A ++ O) := by
        show _ = _
        rw [hA, hO, show ({ data := #[0] } : ByteArray) = mkS [0] from rfl, mkS_append]
        congr 1
        exact List.replicate_succ'
      have hAs : A.size ≤ 32 := by rw [hA, size_mkS, zs_length]; omega
      have hOs : O.size = 1 := by rw [hO]; rfl
      have r1 : ∀ W : World, (Op.stringOp .add A O).run Tryz.prog W = .ok (.string (A ++ O)) W := fun W => by rw [run_string_add_sum W A O (by omega)]
      have hO2 : ({ data := #[0] } : ByteArray) = O := hO.symm
      rw [← hA]
      have hc1 : (k : Int) < 32 := by omega
      have hwr : IntKind.i64.wrap ((k : Int) + 1) = (k : Int) + 1 := IntWalk.i64_in _ (by omega)
      clear hA hO
      go_wp2
      go_roundw
      case rel => exact ⟨k + 1, by omega, rfl, by rw [HAO.out], trivial⟩
      case measure => simp [intOf]; omega
    · have hz : mkS (zs k) = mkS (zs 32) := by rw [show k = 32 by omega]
      rw [hz]
      have hc1 : ¬ (k : Int) < 32 := by omega
      clear hz hk hk32
      go_wp2
      go_loopw [7] (fun i wq => ∃ k : Nat, k ≤ n ∧ i = .int .i64 (k : Int) ∧ Hid (RNewIn w wq k)) (fun i _ => n - (intOf i).toNat)
      case atStart => exact ⟨0, Nat.zero_le _, rfl, ⟨.slice none 0 0, blk_new w _, World.ownsRow_nil _ _ _ _, (Only.refl _ _).alloc _⟩⟩
      case round =>
        obtain ⟨k, hk, rfl, HI⟩ := hrel
        by_cases hkn : k < n
        · obtain ⟨v, hq, hv, ho⟩ := HI.out
          obtain ⟨c0, c1, c2, c3, c4, f0, f1, f2, f3, f4⟩ := refF hq
          have HQ := Lib.hid hq
          have HV := Lib.hid hv
          have HO := Lib.hid ho
          obtain ⟨i0, hi, hz0, hz1, hz2⟩ := info_parts string_info
          have hc1 : (k : Int) < (n : Int) := by omega
          have hwr : IntKind.i64.wrap ((k : Int) + 1) = (k : Int) + 1 := IntWalk.i64_in _ (by omega)
          clear hq hv ho HI
          go_wp2_with (at_builtin; refine wpList_append_own_at _ rfl _ _ 37 rfl (w.heap.size + 1) 9 i0 (.string ByteArray.empty) 1 16 Tryz.underlying37 hi hz0 hz1 hz2 rfl (by decide) _ _ _ rfl (HV.out.alloc _) ⟨wr.heap.size, 0, none⟩ 1 1 [strV (zs 32)] rfl rfl ?c1 ?c2 ?c3 ?c4 ?c5 ?_)
          case c1 =>
            intro m u hm
            match m, hm with
            | 0, hm => simp at hm; subst hm; simp [Addr.add, strV]
          case c2 => intro u hu; simp at hu; subst hu; rfl
          case c3 => rw [List.length_replicate]; unfold maxLen; omega
          case c4 => rw [List.length_replicate]; omega
          case c5 => have := HO.out.size; have := blk_lt HQ.out; simp; omega
          intro v6 w6 hown6 hgrow6 hnil6 hat6
          obtain ⟨ao6, n6, cap6, rfl⟩ := own_slice hown6
          obtain ⟨hq6, hi6⟩ := RNewIn.step HQ.out HV.out HO.out hown6 hgrow6
          obtain ⟨d0, d1, d2, d3, d4, e0, e1, e2, e3, e4⟩ := refF hq6
          have HI6 := Lib.hid hi6
          clear hown6 hgrow6 hnil6 hat6 hq6 hi6 c0 c1 c2 c3 c4 f0 f1 f2 f3 f4
          go_wp2_with fail
          go_roundw
          case rel => exact ⟨k + 1, by omega, rfl, HI6⟩
          case measure => simp [intOf]; omega
        · obtain rfl : k = n := by omega
          have HD := Lib.hid (HI.out.done h1 h2)
          clear HI
          go_wp2
          go_ret2
          exact ⟨rfl, HD.out⟩
end Go.Proofs.YtngcdkbnljoodaaGreatDoor

